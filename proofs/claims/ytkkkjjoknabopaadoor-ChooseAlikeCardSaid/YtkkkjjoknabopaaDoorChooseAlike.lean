/- The law ChooseAlike. -/
import Derived.Test.YtkkkjjoknabopaaDoorChooseRight
import Derived.Deep.DeepCutAuto
import Derived.Deep.LoopGhost
namespace Go.Proofs.YtkkkjjoknabopaaDoor
open Go Go.RowKit

def upd (more : Int) (k i : Nat) (x : Int) : Int := if i < k then x + more else x
def one (more : Int) (k i : Nat) (x : Int) : Int := if k = i then x + more else x
theorem row7_set0 {x0 x1 x2 x3 x4 x5 x6 more : Int} {k : Nat} (h : k < 7) :
    (row7 (upd more k 0 x0) (upd more k 1 x1) (upd more k 2 x2) (upd more k 3 x3) (upd more k 4 x4) (upd more k 5 x5) (upd more k 6 x6)).setIfInBounds k (.int .i64 (gi [x0, x1, x2, x3, x4, x5, x6] k + more)) =
      row7 (upd more (k + 1) 0 x0) (upd more (k + 1) 1 x1) (upd more (k + 1) 2 x2) (upd more (k + 1) 3 x3) (upd more (k + 1) 4 x4) (upd more (k + 1) 5 x5) (upd more (k + 1) 6 x6) := by
  have h' : k = 0 ∨ k = 1 ∨ k = 2 ∨ k = 3 ∨ k = 4 ∨ k = 5 ∨ k = 6 := by omega
  rcases h' with rfl | rfl | rfl | rfl | rfl | rfl | rfl <;> simp [upd, gi]
theorem row7_set1 {x0 x1 x2 x3 x4 x5 x6 more : Int} {k : Nat} (h : k < 7) :
    (row7 x0 x1 x2 x3 x4 x5 x6).setIfInBounds k (.int .i64 (gi [x0, x1, x2, x3, x4, x5, x6] k + more)) =
      row7 (one more k 0 x0) (one more k 1 x1) (one more k 2 x2) (one more k 3 x3) (one more k 4 x4) (one more k 5 x5) (one more k 6 x6) := by
  have h' : k = 0 ∨ k = 1 ∨ k = 2 ∨ k = 3 ∨ k = 4 ∨ k = 5 ∨ k = 6 := by omega
  rcases h' with rfl | rfl | rfl | rfl | rfl | rfl | rfl <;> simp [one, gi]
theorem gi_all {x0 x1 x2 x3 x4 x5 x6 more : Int} {i : Nat} (h : i < 7) : gi [x0 + more, x1 + more, x2 + more, x3 + more, x4 + more, x5 + more, x6 + more] i = gi [x0, x1, x2, x3, x4, x5, x6] i + more := by
  have h' : i = 0 ∨ i = 1 ∨ i = 2 ∨ i = 3 ∨ i = 4 ∨ i = 5 ∨ i = 6 := by omega
  rcases h' with rfl | rfl | rfl | rfl | rfl | rfl | rfl <;> rfl
theorem gi_one {x0 x1 x2 x3 x4 x5 x6 more : Int} {k i : Nat} (h : i < 7) :
    gi [one more k 0 x0, one more k 1 x1, one more k 2 x2, one more k 3 x3, one more k 4 x4, one more k 5 x5, one more k 6 x6] i = one more k i (gi [x0, x1, x2, x3, x4, x5, x6] i) := by
  have h' : i = 0 ∨ i = 1 ∨ i = 2 ∨ i = 3 ∨ i = 4 ∨ i = 5 ∨ i = 6 := by omega
  rcases h' with rfl | rfl | rfl | rfl | rfl | rfl | rfl <;> rfl
theorem bestFrom_shift {xs ys : List Int} {more : Int} (h : ∀ i, i < 7 → gi ys i = gi xs i + more) : ∀ k, k ≤ 7 → bestFrom ys k = bestFrom xs k
  | 0, _ => rfl
  | k + 1, hk => by
    have ih := bestFrom_shift h k (by omega)
    have hb := bestFrom_lt xs k
    unfold bestFrom
    rw [ih, h k (by omega), h (bestFrom xs k) (by omega)]
    split <;> split <;> first | rfl | omega
theorem best_shift {xs ys : List Int} {more : Int} (h : ∀ i, i < 7 → gi ys i = gi xs i + more) : best ys = best xs := bestFrom_shift h 7 (Nat.le_refl _)
theorem beaten_shift {xs ys : List Int} {more now m : Int} (h : ∀ i, i < 7 → gi ys i = gi xs i + more) : beatenB ys now m = beatenB xs now m := by
  unfold beatenB
  rw [decide_eq_decide, best_shift h, h (best xs) (best_lt xs)]
  constructor
  · rintro ⟨h1, h2, h3⟩
    rw [h now.toNat (by omega)] at h3
    exact ⟨h1, h2, by omega⟩
  · rintro ⟨h1, h2, h3⟩
    rw [h now.toNat (by omega)]
    exact ⟨h1, h2, by omega⟩
theorem beaten_one {xs zs : List Int} {more m : Int} {n : Nat} (h : ∀ i, i < 7 → gi zs i = one more n i (gi xs i)) (h0 : 0 ≤ more) (hm : 0 ≤ m) (hb : beatenB xs n m = true) : beatenB zs n m = true := by
  unfold beatenB at *
  have hb := of_decide_eq_true hb
  have hn : n < 7 := by omega
  simp only [Int.toNat_natCast] at *
  have e1 : gi zs n = gi xs n + more := by rw [h n hn]; simp [one]
  have hne : best xs ≠ n := fun e => by rw [e] at hb; omega
  have e2 : gi zs (best xs) = gi xs (best xs) := by rw [h _ (best_lt xs)]; simp [one, Ne.symm hne]
  have e3 := best_le zs (best xs) (best_lt xs)
  exact decide_eq_true ⟨hb.1, hb.2.1, by omega⟩
theorem Best_val (x0 x1 x2 x3 x4 x5 x6 : Int) (w : World) {n : Nat} (h : best [x0, x1, x2, x3, x4, x5, x6] = n) :
    Calls Tryd.prog 16 #[.agg (row7 x0 x1 x2 x3 x4 x5 x6)] w fun r w' => r = .returned (.int .i64 n) ∧ Keep w w' := by
  have k := Best_any x0 x1 x2 x3 x4 x5 x6 w
  rw [h] at k
  exact k
set_option maxRecDepth 100000 in
set_option maxHeartbeats 40000000 in
theorem walk_ChooseAlike (x0 x1 x2 x3 x4 x5 x6 now margin more : Int) (W : World) (hE : Env W) (hx : ∀ i, gi [x0, x1, x2, x3, x4, x5, x6] i ≤ 9223372036854775807) (h7 : ∀ i, 7 ≤ i → gi [x0, x1, x2, x3, x4, x5, x6] i = 0)
    (hr : rightB [x0, x1, x2, x3, x4, x5, x6] = true) (hm : 0 ≤ margin ∧ margin ≤ 1073741824 ∧ 0 ≤ more ∧ more ≤ 1099511627776) :
    Calls Tryd.prog 6 #[.agg (row7 x0 x1 x2 x3 x4 x5 x6), .int .i64 now, .int .i64 margin, .int .i64 more] W fun e w' => e = .returned (.bool true) ∧ Holds W w' [] := by
  have hE := hide hE
  have hf := rightB_fair hr hx h7
  have h0 := hide ((Holds.start W).alloc (o := .cells (row7 x0 x1 x2 x3 x4 x5 x6) 31))
  obtain ⟨W1, hW1⟩ : ∃ W1, W.alloc (.cells (row7 x0 x1 x2 x3 x4 x5 x6) 31) = W1 := ⟨_, rfl⟩
  obtain ⟨bx, hbx⟩ : ∃ bx, W.heap.size = bx := ⟨_, rfl⟩
  rw [hW1, hbx] at h0
  obtain ⟨m0, m1, m2, m3⟩ := hm
  go_enter Tryd.func6, Tryd.ntmps6
  go_upto_region 5 with (first
    | (go_at_call 8; (with_reducible refine (awake13 W _ _ hE.out h0.out).mono ?_); rintro r w1 ⟨rfl, h1⟩
       obtain ⟨r0, r1, r2, r3, r4, r5, r6⟩ := row7_cells h1
       have h1 := hide h1)
    | (go_at_call 12; (with_reducible refine (right_any x0 x1 x2 x3 x4 x5 x6 _).mono ?_); rintro r w2 ⟨rfl, h2⟩
       have h2 := h1.out.keep h2
       obtain ⟨s0, s1, s2, s3, s4, s5, s6⟩ := row7_cells h2
       have h2 := hide h2))
  go_cut [9, 10] (fun y z wr => ∃ by' bz, y = .pointer (some ⟨by', 0, none⟩) ∧ z = .pointer (some ⟨bz, 0, none⟩) ∧ Holds W wr [pts by' (.cells (row7 x0 x1 x2 x3 x4 x5 x6) 31), pts bz (.cells (row7 x0 x1 x2 x3 x4 x5 x6) 31), pts bx (.cells (row7 x0 x1 x2 x3 x4 x5 x6) 31)])
  case first =>
    have hlt := h2.out.lt
    have l1 : ¬ w2.heap.size = bx := by omega
    have l2 : ¬ w2.heap.size + 1 = bx := by omega
    have g := h2.out.alloc (o := .cells (row7 x0 x1 x2 x3 x4 x5 x6) 31) |>.alloc (o := .cells (row7 x0 x1 x2 x3 x4 x5 x6) 31) |>.drew
    simp only [World.size_alloc] at g
    have g := hide g
    go_region_held3 (fun w' => w'.cell? ⟨bx, 0, none⟩ = some (.int .i64 x0) ∧ w'.cell? ⟨bx, 1, none⟩ = some (.int .i64 x1) ∧ w'.cell? ⟨bx, 2, none⟩ = some (.int .i64 x2) ∧ w'.cell? ⟨bx, 3, none⟩ = some (.int .i64 x3)
      ∧ w'.cell? ⟨bx, 4, none⟩ = some (.int .i64 x4) ∧ w'.cell? ⟨bx, 5, none⟩ = some (.int .i64 x5) ∧ w'.cell? ⟨bx, 6, none⟩ = some (.int .i64 x6)) (go_keep) (fail)
    all_goals
      go_wp2
      go_meet
      case rel => first | exact ⟨_, _, rfl, rfl, g.out⟩ | exact ⟨_, _, rfl, rfl, g.out.p1⟩
  case rest =>
    obtain ⟨by', bz, rfl, rfl, hc⟩ := hcut
    have hc := hide hc
    go_wp2
    go_loopw [11] (fun t wr => ∃ k : Nat, k ≤ 7 ∧ t = .int .i64 k ∧ (∀ i, i < k → gi [x0, x1, x2, x3, x4, x5, x6] i ≤ 1125899906842624) ∧
      Holds W wr [pts by' (.cells (row7 (upd more k 0 x0) (upd more k 1 x1) (upd more k 2 x2) (upd more k 3 x3) (upd more k 4 x4) (upd more k 5 x5) (upd more k 6 x6)) 31), pts bz (.cells (row7 x0 x1 x2 x3 x4 x5 x6) 31), pts bx (.cells (row7 x0 x1 x2 x3 x4 x5 x6) 31)]) (fun t _ => (7 - intOf t).toNat)
    case atStart => exact ⟨0, by omega, rfl, fun i hi => absurd hi (Nat.not_lt_zero i), hc.out⟩
    case round =>
      obtain ⟨k, hk, rfl, hall, hwr⟩ := hrel
      have hall := hide hall
      by_cases hlt : k < 7
      · have hlt' : (k : Int) < 7 := by omega
        have hk0 : (0 : Int) ≤ k := by omega
        have ck := hwr.p2.cell (row7_get x0 x1 x2 x3 x4 x5 x6 k hlt)
        have cy := hwr.cell (row7_get (upd more k 0 x0) (upd more k 1 x1) (upd more k 2 x2) (upd more k 3 x3) (upd more k 4 x4) (upd more k 5 x5) (upd more k 6 x6) k hlt)
        have fy := hwr.free (off := k)
        have hwr := hide hwr
        have f1 := hf k
        by_cases hd : gi [x0, x1, x2, x3, x4, x5, x6] k > 1125899906842624
        · go_wp2
          go_ret
          exact ⟨rfl, hwr.out.nil⟩
        · go_wp2
          go_roundw
          case rel => exact ⟨k + 1, by omega, by go_num, fun i hi => by
            by_cases e : i = k
            · subst e; omega
            · exact hall.out i (by omega), by rw [← row7_set0 hlt]; exact hwr.out.setCell⟩
          case measure => simp [intOf]; omega
      · obtain rfl : k = 7 := by omega
        have hY : Holds W wr [pts by' (.cells (row7 (x0 + more) (x1 + more) (x2 + more) (x3 + more) (x4 + more) (x5 + more) (x6 + more)) 31), pts bz (.cells (row7 x0 x1 x2 x3 x4 x5 x6) 31), pts bx (.cells (row7 x0 x1 x2 x3 x4 x5 x6) 31)] := hwr
        clear hwr
        have hall7 := hall.out
        have fy : fair [x0 + more, x1 + more, x2 + more, x3 + more, x4 + more, x5 + more, x6 + more] := fun i => by
          by_cases hi : i < 7
          · rw [gi_all hi]; have := hall7 i hi; have := hf i; omega
          · obtain ⟨j, rfl⟩ : ∃ j, i = j + 7 := ⟨i - 7, by omega⟩
            exact ⟨Int.le_refl _, (by decide : (0 : Int) ≤ 9223372036854775807)⟩
        have eb := best_shift (xs := [x0, x1, x2, x3, x4, x5, x6]) (ys := [x0 + more, x1 + more, x2 + more, x3 + more, x4 + more, x5 + more, x6 + more]) fun i hi => gi_all hi
        have ev := beaten_shift (xs := [x0, x1, x2, x3, x4, x5, x6]) (ys := [x0 + more, x1 + more, x2 + more, x3 + more, x4 + more, x5 + more, x6 + more]) (now := now) (m := margin) fun i hi => gi_all hi
        have fy := hide fy
        have eb := hide eb
        have ev := hide ev
        have hall7 := hide hall7
        by_cases hn : 0 ≤ now ∧ now < 7
        · obtain ⟨n, rfl⟩ : ∃ n : Nat, now = n := ⟨now.toNat, by omega⟩
          obtain ⟨n0, n1⟩ := hn
          have hn7 : n < 7 := by omega
          have ck := hY.p2.cell (row7_get x0 x1 x2 x3 x4 x5 x6 n hn7)
          have cz := hY.p1.cell (row7_get x0 x1 x2 x3 x4 x5 x6 n hn7)
          have fz := hY.p1.free (off := n)
          have hY := hide hY
          have f1 := hf n
          have f2 := hall7.out n hn7
          have fzs : fair [one more n 0 x0, one more n 1 x1, one more n 2 x2, one more n 3 x3, one more n 4 x4, one more n 5 x5, one more n 6 x6] := fun i => by
            by_cases hi : i < 7
            · rw [gi_one hi]; have := hall7.out i hi; have := hf i; unfold one; split <;> omega
            · obtain ⟨j, rfl⟩ : ∃ j, i = j + 7 := ⟨i - 7, by omega⟩
              exact ⟨Int.le_refl _, (by decide : (0 : Int) ≤ 9223372036854775807)⟩
          have fzs := hide fzs
          have ez : Hide (beatenB [x0, x1, x2, x3, x4, x5, x6] n margin = true → beatenB [one more n 0 x0, one more n 1 x1, one more n 2 x2, one more n 3 x3, one more n 4 x4, one more n 5 x5, one more n 6 x6] n margin = true) := ⟨beaten_one (fun i hi => gi_one hi) m2 m0⟩
          go_upto_region 14 with fail
          have hZ : Holds W (wr.setCell ⟨bz, n, none⟩ (.int .i64 (gi [x0, x1, x2, x3, x4, x5, x6] n + more))) [pts bz (.cells (row7 (one more n 0 x0) (one more n 1 x1) (one more n 2 x2) (one more n 3 x3) (one more n 4 x4) (one more n 5 x5) (one more n 6 x6)) 31), pts by' (.cells (row7 (x0 + more) (x1 + more) (x2 + more) (x3 + more) (x4 + more) (x5 + more) (x6 + more)) 31), pts bx (.cells (row7 x0 x1 x2 x3 x4 x5 x6) 31)] := by
            rw [← row7_set1 hn7]; exact hY.out.p1.setCell
          obtain ⟨wz, hwz⟩ : ∃ wz, wr.setCell ⟨bz, n, none⟩ (.int .i64 (gi [x0, x1, x2, x3, x4, x5, x6] n + more)) = wz := ⟨_, rfl⟩
          rw [hwz] at hZ ⊢
          obtain ⟨z0, z1, z2, z3, z4, z5, z6⟩ := row7_cells hZ
          obtain ⟨y0, y1, y2, y3, y4, y5, y6⟩ := row7_cells hZ.p1
          obtain ⟨r0, r1, r2, r3, r4, r5, r6⟩ := row7_cells hZ.p2
          clear hwz
          have hZ := hide hZ
          have uz0 := fun u : KeptOf wz => u.cell z0; have uz1 := fun u : KeptOf wz => u.cell z1; have uz2 := fun u : KeptOf wz => u.cell z2; have uz3 := fun u : KeptOf wz => u.cell z3; have uz4 := fun u : KeptOf wz => u.cell z4; have uz5 := fun u : KeptOf wz => u.cell z5; have uz6 := fun u : KeptOf wz => u.cell z6; have uy0 := fun u : KeptOf wz => u.cell y0; have uy1 := fun u : KeptOf wz => u.cell y1; have uy2 := fun u : KeptOf wz => u.cell y2; have uy3 := fun u : KeptOf wz => u.cell y3; have uy4 := fun u : KeptOf wz => u.cell y4; have uy5 := fun u : KeptOf wz => u.cell y5; have uy6 := fun u : KeptOf wz => u.cell y6; have ur0 := fun u : KeptOf wz => u.cell r0; have ur1 := fun u : KeptOf wz => u.cell r1; have ur2 := fun u : KeptOf wz => u.cell r2; have ur3 := fun u : KeptOf wz => u.cell r3; have ur4 := fun u : KeptOf wz => u.cell r4; have ur5 := fun u : KeptOf wz => u.cell r5; have ur6 := fun u : KeptOf wz => u.cell r6
          cases hb : beatenB [x0, x1, x2, x3, x4, x5, x6] n margin
          all_goals
            have hb' := hide hb
            clear hb
            (refine wp_region_kept (by kernel_rfl) (by kernel_rfl) ?_; (repeat (go_big_quiet_step (first | (go_at_call 16; with_reducible exact KeptOf.calls (Best_val (x0 + more) (x1 + more) (x2 + more) (x3 + more) (x4 + more) (x5 + more) (x6 + more) _ eb.out)) | (go_at_call 16; with_reducible exact KeptOf.calls (Best_any x0 x1 x2 x3 x4 x5 x6 _)) | (go_at_call 18; with_reducible exact KeptOf.calls (Beaten_val (x0 + more) (x1 + more) (x2 + more) (x3 + more) (x4 + more) (x5 + more) (x6 + more) _ margin _ _ fy.out (ev.out.trans hb'.out))) | (go_at_call 18; with_reducible exact KeptOf.calls (Beaten_val x0 x1 x2 x3 x4 x5 x6 _ margin _ _ hf hb'.out)) | (go_at_call 18; with_reducible exact KeptOf.calls (Beaten_val (one more n 0 x0) (one more n 1 x1) (one more n 2 x2) (one more n 3 x3) (one more n 4 x4) (one more n 5 x5) (one more n 6 x6) _ margin _ true fzs.out (ez.out hb'.out)))))); refine wpQuiet_nil ?_; intro _ hw'; obtain ⟨uq, hw''⟩ := hw'; subst hw'')
            have h8 := hide (uq.holds hZ.out)
            go_wp2
            go_ret
            exact ⟨rfl, h8.out.nil⟩
        · have hb' : Hide (beatenB [x0, x1, x2, x3, x4, x5, x6] now margin = false) := ⟨decide_eq_false fun h => hn ⟨h.1, h.2.1⟩⟩
          obtain ⟨wz, rfl⟩ : ∃ wz, wr = wz := ⟨_, rfl⟩
          obtain ⟨y0, y1, y2, y3, y4, y5, y6⟩ := row7_cells hY
          obtain ⟨z0, z1, z2, z3, z4, z5, z6⟩ := row7_cells hY.p1
          obtain ⟨r0, r1, r2, r3, r4, r5, r6⟩ := row7_cells hY.p2
          have hZ := hide hY
          clear hY
          have uz0 := fun u : KeptOf wr => u.cell z0; have uz1 := fun u : KeptOf wr => u.cell z1; have uz2 := fun u : KeptOf wr => u.cell z2; have uz3 := fun u : KeptOf wr => u.cell z3; have uz4 := fun u : KeptOf wr => u.cell z4; have uz5 := fun u : KeptOf wr => u.cell z5; have uz6 := fun u : KeptOf wr => u.cell z6; have uy0 := fun u : KeptOf wr => u.cell y0; have uy1 := fun u : KeptOf wr => u.cell y1; have uy2 := fun u : KeptOf wr => u.cell y2; have uy3 := fun u : KeptOf wr => u.cell y3; have uy4 := fun u : KeptOf wr => u.cell y4; have uy5 := fun u : KeptOf wr => u.cell y5; have uy6 := fun u : KeptOf wr => u.cell y6; have ur0 := fun u : KeptOf wr => u.cell r0; have ur1 := fun u : KeptOf wr => u.cell r1; have ur2 := fun u : KeptOf wr => u.cell r2; have ur3 := fun u : KeptOf wr => u.cell r3; have ur4 := fun u : KeptOf wr => u.cell r4; have ur5 := fun u : KeptOf wr => u.cell r5; have ur6 := fun u : KeptOf wr => u.cell r6
          by_cases h1 : 0 ≤ now
          · have h2' : ¬ now < 7 := fun h => hn ⟨h1, h⟩
            clear hn
            go_upto_region 14 with fail
            (refine wp_region_kept (by kernel_rfl) (by kernel_rfl) ?_; (repeat (go_big_quiet_step (first | (go_at_call 16; with_reducible exact KeptOf.calls (Best_val (x0 + more) (x1 + more) (x2 + more) (x3 + more) (x4 + more) (x5 + more) (x6 + more) _ eb.out)) | (go_at_call 16; with_reducible exact KeptOf.calls (Best_any x0 x1 x2 x3 x4 x5 x6 _)) | (go_at_call 18; with_reducible exact KeptOf.calls (Beaten_val (x0 + more) (x1 + more) (x2 + more) (x3 + more) (x4 + more) (x5 + more) (x6 + more) _ margin _ _ fy.out (ev.out.trans hb'.out))) | (go_at_call 18; with_reducible exact KeptOf.calls (Beaten_val x0 x1 x2 x3 x4 x5 x6 _ margin _ _ hf hb'.out))))); refine wpQuiet_nil ?_; intro _ hw'; obtain ⟨uq, hw''⟩ := hw'; subst hw'')
            have h8 := hide (uq.holds hZ.out)
            go_wp2
            go_ret
            exact ⟨rfl, h8.out.nil⟩
          · clear hn
            go_upto_region 14 with fail
            (refine wp_region_kept (by kernel_rfl) (by kernel_rfl) ?_; (repeat (go_big_quiet_step (first | (go_at_call 16; with_reducible exact KeptOf.calls (Best_val (x0 + more) (x1 + more) (x2 + more) (x3 + more) (x4 + more) (x5 + more) (x6 + more) _ eb.out)) | (go_at_call 16; with_reducible exact KeptOf.calls (Best_any x0 x1 x2 x3 x4 x5 x6 _)) | (go_at_call 18; with_reducible exact KeptOf.calls (Beaten_val (x0 + more) (x1 + more) (x2 + more) (x3 + more) (x4 + more) (x5 + more) (x6 + more) _ margin _ _ fy.out (ev.out.trans hb'.out))) | (go_at_call 18; with_reducible exact KeptOf.calls (Beaten_val x0 x1 x2 x3 x4 x5 x6 _ margin _ _ hf hb'.out))))); refine wpQuiet_nil ?_; intro _ hw'; obtain ⟨uq, hw''⟩ := hw'; subst hw'')
            have h8 := hide (uq.holds hZ.out)
            go_wp2
            go_ret
            exact ⟨rfl, h8.out.nil⟩
theorem right_val {x0 x1 x2 x3 x4 x5 x6 : Int} {w : World} {v : Bool} (h : rightB [x0, x1, x2, x3, x4, x5, x6] = v) :
    Calls Tryd.prog 12 #[.agg (row7 x0 x1 x2 x3 x4 x5 x6)] w fun r w' => r = .returned (.bool v) ∧ Keep w w' := by
  have k := right_any x0 x1 x2 x3 x4 x5 x6 w
  rw [h] at k
  exact k
set_option maxRecDepth 100000 in
set_option maxHeartbeats 40000000 in
theorem walk_ChooseAlike_out (x0 x1 x2 x3 x4 x5 x6 now margin more : Int) (W : World) (hE : Env W)
    (hm : rightB [x0, x1, x2, x3, x4, x5, x6] = false ∨ ¬ (0 ≤ margin ∧ margin ≤ 1073741824 ∧ 0 ≤ more ∧ more ≤ 1099511627776)) :
    Calls Tryd.prog 6 #[.agg (row7 x0 x1 x2 x3 x4 x5 x6), .int .i64 now, .int .i64 margin, .int .i64 more] W fun e w' => e = .returned (.bool true) ∧ Holds W w' [] := by
  have hE := hide hE
  have h0 := hide ((Holds.start W).alloc (o := .cells (row7 x0 x1 x2 x3 x4 x5 x6) 31))
  obtain ⟨W1, hW1⟩ : ∃ W1, W.alloc (.cells (row7 x0 x1 x2 x3 x4 x5 x6) 31) = W1 := ⟨_, rfl⟩
  obtain ⟨bx, hbx⟩ : ∃ bx, W.heap.size = bx := ⟨_, rfl⟩
  rw [hW1, hbx] at h0
  cases hr : rightB [x0, x1, x2, x3, x4, x5, x6]
  · clear hm
    have hr := hide hr
    go_enter Tryd.func6, Tryd.ntmps6
    go_wp2_with (first
      | (go_at_call 8; (with_reducible refine (awake13 W _ _ hE.out h0.out).mono ?_); rintro r w1 ⟨rfl, h1⟩
         obtain ⟨r0, r1, r2, r3, r4, r5, r6⟩ := row7_cells h1
         have h1 := hide h1)
      | (go_at_call 12; (with_reducible refine (right_val hr.out).mono ?_); rintro r w2 ⟨rfl, h2⟩
         have h2 := hide (h1.out.keep h2)))
    go_ret
    exact ⟨rfl, h2.out.drop⟩
  · have hm : ¬ (0 ≤ margin ∧ margin ≤ 1073741824 ∧ 0 ≤ more ∧ more ≤ 1099511627776) := by
      rcases hm with h | h
      · rw [hr] at h; cases h
      · exact h
    have hr := hide hr
    go_enter Tryd.func6, Tryd.ntmps6
    go_wp2_with (first
      | (go_at_call 8; (with_reducible refine (awake13 W _ _ hE.out h0.out).mono ?_); rintro r w1 ⟨rfl, h1⟩
         obtain ⟨r0, r1, r2, r3, r4, r5, r6⟩ := row7_cells h1
         have h1 := hide h1)
      | (go_at_call 12; (with_reducible refine (right_val hr.out).mono ?_); rintro r w2 ⟨rfl, h2⟩
         have h2 := hide (h1.out.keep h2)))
    all_goals (go_ret; exact ⟨rfl, h2.out.drop⟩)
theorem ChooseAlike_at : LawAt 6 Tryd.f6 := by
  intro W args hE hA
  rw [Tryd.params6] at hA
  obtain ⟨v0, vs0, e0, a0, hA⟩ := args_cons hA
  obtain ⟨v1, vs1, rfl, a1, hA⟩ := args_cons hA
  obtain ⟨v2, vs2, rfl, a2, hA⟩ := args_cons hA
  obtain ⟨v3, vs3, rfl, a3, hA⟩ := args_cons hA
  obtain rfl := args_nil hA
  obtain ⟨cs, rfl, n, hs⟩ := arg_array Tryd.underlying31 a0
  obtain ⟨x0, x1, x2, x3, x4, x5, x6, hcs, hx, h7⟩ := ints7_of_shp hs
  obtain ⟨now, rfl, _⟩ := arg_int Tryd.underlying3 a1
  obtain ⟨margin, rfl, _⟩ := arg_int Tryd.underlying3 a2
  obtain ⟨more, rfl, _⟩ := arg_int Tryd.underlying3 a3
  obtain rfl : cs = row7 x0 x1 x2 x3 x4 x5 x6 := by cases cs; simpa using hcs
  obtain rfl : args = #[.agg (row7 x0 x1 x2 x3 x4 x5 x6), .int .i64 now, .int .i64 margin, .int .i64 more] := by cases args; simpa using e0
  by_cases hm : 0 ≤ margin ∧ margin ≤ 1073741824 ∧ 0 ≤ more ∧ more ≤ 1099511627776
  · cases hr : rightB [x0, x1, x2, x3, x4, x5, x6]
    · exact walk_ChooseAlike_out x0 x1 x2 x3 x4 x5 x6 now margin more W hE (.inl hr)
    · exact walk_ChooseAlike x0 x1 x2 x3 x4 x5 x6 now margin more W hE hx h7 hr hm
  · exact walk_ChooseAlike_out x0 x1 x2 x3 x4 x5 x6 now margin more W hE (.inr hm)
set_option maxRecDepth 100000 in
theorem ChooseAlike_lifted (os : Os) (started : os.Started) (H : Type) (enc : TypeId × Value → H) (F : Stop.Interp) :
    ReturnsInHanded {} Tryd.checked os 6 .any ((OpenSpec.ofChange Rows.chooseAlikeSpec).preRow enc Tryd.prog Tryd.f6 Rows.chooseAlikeRow.domain false Rows.chooseAlikeRow.laid) (((OpenSpec.ofChange Rows.chooseAlikeSpec).at F).post enc Tryd.prog Tryd.f6 false true false false) := by
  have hx : DataW.whole enc Tryd.prog ((laidWorld os).forCall (fun _ _ => 0) ⟨#[], #[.agg #[.int .i64 0, .int .i64 0, .int .i64 0, .int .i64 0, .int .i64 0, .int .i64 0, .int .i64 0], .int .i64 0, .int .i64 0, .int .i64 0], []⟩).memory Tryd.f6.params.toList Rows.chooseAlikeSpec.vars false (#[.agg #[.int .i64 0, .int .i64 0, .int .i64 0, .int .i64 0, .int .i64 0, .int .i64 0, .int .i64 0], .int .i64 0, .int .i64 0, .int .i64 0] : Array Value).toList 16 = some ([.agg [.lit (.int .i64 0), .lit (.int .i64 0), .lit (.int .i64 0), .lit (.int .i64 0), .lit (.int .i64 0), .lit (.int .i64 0), .lit (.int .i64 0)], .lit (.int .i64 0), .lit (.int .i64 0), .lit (.int .i64 0)], [], []) := by kernel_rfl
  refine returnsInHanded_of_row (C := Tryd.checked) (s := OpenSpec.ofChange Rows.chooseAlikeSpec) own started (by kernel_rfl) Tryd.func6
    (witness_row_at (enc := enc) (C := Tryd.checked) false (laidWorld os) #[.agg #[.int .i64 0, .int .i64 0, .int .i64 0, .int .i64 0, .int .i64 0, .int .i64 0, .int .i64 0], .int .i64 0, .int .i64 0, .int .i64 0] rfl (by kernel_rfl) (by kernel_rfl) (by kernel_rfl)
      (OpenSpec.preRow_of_cond 16 hx (by kernel_rfl) (fun k hk => by cases hk) (by kernel_rfl) (laidWorld_met os _))) ?_
  intro W base args ds gs before hval hW _ _ _ hL _ _
  exact law_post rfl rfl (by intro H ds h; have h' : ds.length = 4 := h; match ds, h' with | [_, _, _, _], _ => rfl) (by decide +kernel) ChooseAlike_at (env_of_laid hL) hval hW
theorem ChooseAlike_said : Rows.ChooseAlikeSaid :=
  OpenClaim.holds_of_cond 6 Tryd.f6 rfl rfl rfl rfl rfl rfl rfl ⟨rfl, rfl, rfl, rfl, rfl⟩ rfl rfl rfl rfl rfl (by kernel_rfl) Tryd.func6 (by kernel_rfl)
    (of_decide_eq_true (by kernel_rfl)) (by unfold Func.isWrapper; first | (rw [if_pos (by decide +kernel)]; kernel_rfl) | (rw [if_neg (by decide +kernel)]; exact ⟨rfl, rfl⟩))
    (fun os started H enc _ F => by rw [OpenClaim.pre_eq_preRow]; exact ChooseAlike_lifted os started H enc F)
theorem ChooseAlike_plain (f : FuncId) (fn : Func) (hf : Tryd.pinned.checked.prog.funcNamed "cachewise/cachewiselaw13.ChooseAlike" = some f) (hfn : Tryd.pinned.checked.prog.funcs[f]? = some fn) :
    true = Tryd.pinned.checked.prog.looks [] ∧ ∀ (j : Nat) t, fn.params[j]? = some t → Tryd.pinned.checked.prog.wantsStandIn t = false := by
  obtain rfl : f = 6 := Option.some.inj ((show Tryd.prog.funcNamed "cachewise/cachewiselaw13.ChooseAlike" = some 6 by kernel_rfl).symm.trans hf) |>.symm
  obtain rfl : fn = Tryd.f6 := (Option.some.inj (Tryd.func6.symm.trans hfn)).symm
  refine ⟨by kernel_rfl, fun j t ht => ?_⟩
  have hall : ∀ t, t ∈ Tryd.f6.params.toList → Tryd.prog.wantsStandIn t = false := by decide +kernel
  exact hall t (by simpa using Array.mem_of_getElem? ht)
theorem ChooseAlike_card : Rows.ChooseAlikeCardSaid :=
  Claim7.holds_tied_plain_at .later [] _ _ _ _ ChooseAlike_said (fun _ h => by cases h) (by kernel_rfl) (fun _ h => by cases h) chooseAlike_row_tie rfl ⟨rfl, rfl⟩ (by kernel_rfl) rfl ChooseAlike_plain (by kernel_rfl)
end Go.Proofs.YtkkkjjoknabopaaDoor
