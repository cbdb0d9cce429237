/- The law LearnRegrets: its walk. -/
import Derived.Test.YteledfiechbhgaaGreatDoorQLawTools
import Derived.Test.YteledfiechbhgaaGreatDoorQTwRates
import Derived.Deep.DeepCutAuto
namespace Go.Proofs.YteledfiechbhgaaGreatDoor
open Go Go.RowKit

set_option maxRecDepth 100000
set_option maxHeartbeats 4000000
theorem walk_LearnRegrets (most : Int) (vl vk : Value) (lane : List Nat) (keys : List ByteArray) (W : World) (hE : Env W) (hl : RowR W vl (nums64 lane)) (hll : ∀ x ∈ lane, x < 18446744073709551616) (hk : RowR W vk (strs keys)) :
    Calls Tryz.prog 3 #[.int .i64 most, vl, vk] W fun e w' => e = .returned (.bool true) ∧ Holds W w' [] := by
  have hE := hide hE
  obtain ⟨al, cl, hvl⟩ := hl.shape
  obtain ⟨ak, ck, hvk⟩ := hk.shape
  rw [nums64_length] at hvl
  rw [strs_length] at hvk
  subst hvl
  subst hvk
  obtain ⟨N, hN⟩ : ∃ N, lane.length = N := ⟨_, rfl⟩
  obtain ⟨n, hn⟩ : ∃ n, keys.length = n := ⟨_, rfl⟩
  rw [hN] at hl ⊢
  rw [hn] at hk ⊢
  replace hN := hide hN
  replace hn := hide hn
  replace hl := hide hl
  replace hk := hide hk
  replace hll := hide hll
  have h0 := hide (Holds.start W)
  by_cases g1 : 200 < n
  · have g1' : (200 : Int) < n := by omega
    go_enter Tryz.func3, Tryz.ntmps3
    go_wp2_with (go_at_call 11; (with_reducible refine (awake10 W hE.out).mono ?_); rintro r w1 ⟨rfl, k1⟩)
    go_ret
    exact ⟨rfl, h0.out.keep k1⟩
  have g1' : ¬ (200 : Int) < n := by omega
  by_cases g2 : 300 < N
  · have g2' : (300 : Int) < N := by omega
    go_enter Tryz.func3, Tryz.ntmps3
    go_wp2_with (go_at_call 11; (with_reducible refine (awake10 W hE.out).mono ?_); rintro r w1 ⟨rfl, k1⟩)
    go_ret
    exact ⟨rfl, h0.out.keep k1⟩
  have g2' : ¬ (300 : Int) < N := by omega
  by_cases g5 : most < 1
  · go_enter Tryz.func3, Tryz.ntmps3
    go_wp2_with (go_at_call 11; (with_reducible refine (awake10 W hE.out).mono ?_); rintro r w1 ⟨rfl, k1⟩)
    go_ret
    exact ⟨rfl, h0.out.keep k1⟩
  by_cases g6 : 1000 < most
  · go_enter Tryz.func3, Tryz.ntmps3
    go_wp2_with (go_at_call 11; (with_reducible refine (awake10 W hE.out).mono ?_); rintro r w1 ⟨rfl, k1⟩)
    go_ret
    exact ⟨rfl, h0.out.keep k1⟩
  obtain ⟨m, rfl⟩ : ∃ m : Nat, most = m := ⟨most.toNat, by omega⟩
  have hm : Hide (0 < m ∧ m ≤ 1000) := ⟨by omega⟩
  have hNl : Hide (lane.length ≤ 300) := ⟨by rw [hN.out]; omega⟩
  have hnl : Hide (n ≤ 200) := ⟨by omega⟩
  obtain ⟨least, hleast⟩ : ∃ x : Nat, x = 46116860184273879 := ⟨_, rfl⟩
  have cW1 := hide (fun w => RefWhole_var 1 100 46116860184273879 least (by omega) (RefWhole_100 w))
  replace hleast := hide hleast
  have hmm := @run_makeMap Tryz.prog
  go_enter Tryz.func3, Tryz.ntmps3
  go_wp2_with (first
    | (go_at_call 11; (with_reducible refine (awake10 W hE.out).mono ?_); rintro r w1 ⟨rfl, k1⟩; have k1 := hide k1)
    | (go_at_call 12; (with_reducible refine (Made 5 (.inl rfl) m (by have := hm.out; omega) _ lane (by have := hNl.out; omega) (fun wx hx => hl.out.keep hx.toKeep) (h0.out.keep k1.out)).mono ?_); rintro r w2 ⟨b, tb, rfl, h2⟩; have h2 := hide h2)
    | (go_at_call 13; (with_reducible refine (cW1.out _).mono ?_); rintro r w4 ⟨rfl, k4⟩; have k4 := hide k4))
  obtain ⟨bm, hbm⟩ : ∃ r, w2.heap.size = r := ⟨_, rfl⟩
  have h3 := Holds.keep (Holds.newMap h2.out) k4.out
  rw [hbm] at h3
  try simp only [hbm]
  have h3 := hide h3
  have hR0 := hide (Regr.new m lane hll.out (fun _ => false))
  clear g1 g2 g5 g6 g1' g2' h2 cW1 k4 hbm
  go_loopg [11, 12] (n) (fun c xa xi wr => ∃ i j s l by_, Hide (n - i = c) ∧ i ≤ n ∧ xi = .int .i64 (i : Nat) ∧ j ≤ i ∧ xa = .int .i64 (j : Nat) ∧ Regr m i j lane by_ s ∧ Hide (∀ k, (Assoc.get l k).getD (.bool false) = .bool (by_ k)) ∧ Holds W wr (OwnMap bm l :: IsLn b tb s :: IsTape tb s.tape :: []))
  case atStart => exact ⟨0, 0, Ln.new 5 m [lane] 0, [], fun _ => false, ⟨rfl⟩, Nat.zero_le _, rfl, Nat.le_refl _, rfl, hR0.out, ⟨fun k => rfl⟩, h3.out⟩
  case round =>
    clear h3 hR0
    obtain ⟨i, j, s, l, by_, hci, hin, rfl, hji, rfl, hR, hby, hh⟩ := hrel
    have h3 := hide hh
    clear hh
    by_cases hlt : i < n
    · have hlt' : (i : Int) < n := by omega
      have hnl2 := hnl.out
      have e1 : IntKind.i64.wrap ((i : Int) + 1) = ((i + 1 : Nat) : Int) := by rw [IntWalk.i64_in _ (by omega)]; omega
      have e2 : IntKind.i64.wrap ((j : Int) + 1) = ((j + 1 : Nat) : Int) := by rw [IntWalk.i64_in _ (by omega)]; omega
      obtain ⟨key, hx⟩ : ∃ x, keys[i]? = some x := ⟨_, List.getElem?_eq_getElem (by rw [hn.out]; exact hlt)⟩
      obtain ⟨bk, ok, hak, cW⟩ := RowR.strCell hk.out hx
      subst hak
      have cx := h3.out.toKeep.cell cW
      replace cW := hide cW
      replace hx := hide hx
      by_cases hks : 200 < key.size
      · have hks' : (200 : Int) < key.size := by omega
        clear hks
        go_wp2
        go_ret
        exact ⟨rfl, h3.out.nil⟩
      · have hks' : ¬ (200 : Int) < key.size := by omega
        clear hks
        obtain ⟨hS, hR0, hR1⟩ := hR.req hm.out.1 key
        obtain ⟨⟨s2, ⟨hit, x, out⟩⟩, hs2⟩ : ∃ q, s.req key = q := ⟨_, rfl⟩
        rw [hs2] at hS hR0 hR1
        dsimp only at hS hR0 hR1
        have hf2 := Ln.req_fit hR.fit key
        rw [hs2] at hf2
        have hsm : Hide (s.most ≤ 16777216) := ⟨by rw [hR.most]; have := hm.out; omega⟩
        have cR := hide (fun (w' : World) (L : List SProp) (hw : Holds W w' (IsLn b tb s :: IsTape tb s.tape :: L)) => by
          have c := Ln_Request hw key (4 * i) hR.fit (by omega) hsm.out
          rw [hs2] at c
          dsimp only [stepV] at c
          exact c)
        obtain ⟨wt, hwt⟩ : ∃ x, s.w = x := ⟨_, rfl⟩
        obtain ⟨vt, hvt⟩ : ∃ x, s2.w = x := ⟨_, rfl⟩
        have hb2 := hf2.w
        rw [hvt] at hb2
        obtain ⟨S1, S2, S3, S4⟩ := hS
        rw [hwt, hvt] at S1 S3 S4
        obtain ⟨gs, hgs⟩ : ∃ gs, s.ghosts = gs := ⟨_, rfl⟩
        rw [hgs] at S1 S2 S3 S4
        have hgl : gs.length ≤ 2000000 := by
          have h1 := hR.fit.ga
          have h2 := hR.fit.gb
          rw [← hgs]
          unfold Ln.ghosts
          rw [List.length_append]
          omega
        have cG := hide (fun (w' : World) (L : List SProp) (hw : Holds W w' (IsLn b tb s :: L)) => by
          have c := Ln_Ghosts hw (by have := congrArg List.length hgs; unfold Ln.ghosts at this; rw [List.length_append] at this; omega)
          rw [hgs] at c
          exact c)
        obtain ⟨gh, hgh⟩ : ∃ g, decide (key ∈ gs) = g := ⟨_, rfl⟩
        have hgl' : Hide (gs.length ≤ 10000000) := ⟨by omega⟩
        replace hgh := hide hgh
        replace hwt := hide hwt
        replace hvt := hide hvt
        replace hgs := hide hgs
        replace hs2 := hide hs2
        replace hR0 := hide hR0
        replace hR1 := hide hR1
        replace hf2 := hide hf2
        clear hgl hR
        have S5 : gh = false → vt = wt := fun h => S1 (fun hc => by have := hgh.out; rw [decide_eq_true hc, h] at this; cases this)
        have S6 : gh = true → hit = false := fun h => S2 (of_decide_eq_true (hgh.out.trans h))
        have S7 : gh = true → by_ key = true → vt ≤ wt := fun h => S3 (of_decide_eq_true (hgh.out.trans h))
        have S8 : gh = true → by_ key = false → wt ≤ vt := fun h => S4 (of_decide_eq_true (hgh.out.trans h))
        clear S1 S2 S3 S4
        replace S5 := hide S5
        replace S6 := hide S6
        replace S7 := hide S7
        replace S8 := hide S8
        go_upto_region 17 with (first
          | (go_at_call 14; (with_reducible refine (Ln_Weight (Holds.p1 h3.out) wt hwt.out).mono ?_); rintro r1 w4 ⟨rfl, rfl⟩))
        go_cut [14] (fun v wx => v = .bool gh ∧ Holds W wx (IsLn b tb s :: IsTape tb s.tape :: OwnMap bm l :: []))
        case first =>
          have S0 := hide cx
          go_region_held3 (fun w' => w'.cell? ⟨bk, ok + i, none⟩ = some (.string key)) (first | exact S0.out | exact S9.out)
            ((first
              | (go_at_call 16; (with_reducible refine (cG.out _ _ (Holds.p1 h3.out.drew)).mono ?_); rintro r2 w5 ⟨v5, rfl, h5⟩; have S9 := hide (h5.toKeep.cell cW.out); have h5 := hide h5)
              | (go_at_call 15; (with_reducible refine (Ref3_Has (Holds.strsAt h5.out) hgl'.out key gh hgh.out).mono ?_); rintro r3 w6 ⟨rfl, rfl⟩)))
          all_goals
            go_wp2
            go_meet
            case rel => exact ⟨rfl, h5.out.drop.p2.p1⟩
        case rest =>
          obtain ⟨rfl, hc⟩ := hcut
          have hc := hide hc
          clear h3 cG cx
          have cx := hc.out.toKeep.cell cW.out
          go_upto_region 19 with (go_at_call 17; (with_reducible refine (cR.out _ _ hc.out).mono ?_); rintro r1 w6 ⟨rfl, h6⟩; have h6 := hide h6)
          obtain ⟨ry, hry⟩ : ∃ r, w6.heap.size = r := ⟨_, rfl⟩
          have H7 := (h6.out.alloc (o := .cells #[.bool hit, .string x, .bool out] 36)).p1
          rw [hry] at H7
          try simp only [hry]
          generalize w6.alloc (.cells #[.bool hit, .string x, .bool out] 36) = W7 at H7 ⊢
          clear hry h6 hc cx
          have z0 : W7.cell? ⟨ry, 0, none⟩ = some (.bool hit) := Holds.cell (Holds.p1 H7) rfl
          have z1 : W7.cell? ⟨ry, 1, none⟩ = some (.string x) := Holds.cell (Holds.p1 H7) rfl
          have z2 : W7.cell? ⟨ry, 2, none⟩ = some (.bool out) := Holds.cell (Holds.p1 H7) rfl
          have cx := H7.toKeep.cell cW.out
          have hL := (Holds.p3 H7).lookup Tryz.underlying27 Tryz.underlying9 zeroBool key
          rw [hby.out] at hL
          obtain ⟨bk1, hbk1⟩ : ∃ q, by_ key = q := ⟨_, rfl⟩
          rw [hbk1] at hL
          replace hbk1 := hide hbk1
          have H7 := hide H7
          obtain ⟨top, htop⟩ : ∃ x : Nat, x = 4611686018427387904 - least := ⟨_, rfl⟩
          have f0 : IntKind.u64.wrap (4611686018427387904 - (least : Int)) = (top : Int) := by have := hleast.out; rw [IntKind.wrap_u64]; omega
          have f1 : decide ((vt : Int) < (least : Int)) = false := decide_eq_false (by have := hleast.out; omega)
          have f2 : decide ((top : Int) < (vt : Int)) = false := decide_eq_false (by have := hleast.out; omega)
          have g1 : least ≤ vt := by have := hleast.out; omega
          have g2 : vt ≤ top := by have := hleast.out; omega
          clear htop hb2
          have hcase : gh = false ∨ (gh = true ∧ bk1 = true) ∨ (gh = true ∧ bk1 = false) := by cases gh <;> cases bk1 <;> simp
          rcases hcase with rfl | ⟨rfl, rfl⟩ | ⟨rfl, rfl⟩
          · have S5' := S5.out rfl
            subst S5'
            cases out with
            | false =>
              have hR2 := hide (hR0.out rfl)
              go_wp2_with (go_at_call 14; (with_reducible refine (Ln_Weight H7.out vt hvt.out).mono ?_); rintro r1 w8 ⟨rfl, rfl⟩)
              go_roundg (n - (i + 1))
              case measure => rw [← hci.out]; omega
              case rel => exact ⟨i + 1, j, s2, l, by_, ⟨rfl⟩, by omega, rfl, by omega, rfl, hR2.out, hby, H7.out.p1.drop.p2⟩
            | true =>
              by_cases hjN : j < N
              · have hjN' : (j : Int) < N := by omega
                obtain ⟨nx, hnx⟩ : ∃ x, lane[j]? = some x := ⟨_, List.getElem?_eq_getElem (by rw [hN.out]; exact hjN)⟩
                obtain ⟨bn, on, han, cN⟩ := RowR.numCell hl.out hnx
                subst han
                have cn := H7.out.toKeep.cell cN
                have hR2 := hide (hR1.out rfl)
                replace hnx := hide hnx
                replace cN := hide cN
                obtain ⟨bv, hbv⟩ : ∃ bv, decide ((nx : Int) / 4 < (vt : Int)) = bv := ⟨_, rfl⟩
                have hbn : Hide (decide (nx / 4 < vt) = bv) := ⟨by rw [← hbv]; exact decide_eq_decide.2 (by omega)⟩
                go_wp2_with (first
                  | (go_at_call 14; (with_reducible refine (Ln_Weight H7.out vt hvt.out).mono ?_); rintro r1 w8 ⟨rfl, rfl⟩)
                  | (at_mapUpdate; refine wpList_update_map rfl _ _ _ rfl Tryz.underlying27 Tryz.underlying9 (Holds.p3 H7.out) x (.bool bv) rfl rfl rfl ?_; intro w9 h9; have h9 := hide h9))
                go_roundg (n - (i + 1))
                case measure => rw [← hci.out]; omega
                case rel =>
                  refine ⟨i + 1, j + 1, s2, _, fun c => if c = x then decide (nx / 4 < vt) else by_ c, ⟨rfl⟩, by omega, rfl, by omega, rfl, hR2.out _ (fun c => by rw [hnx.out, hvt.out]; rfl), ⟨fun c => ?_⟩, h9.out.p2.drop⟩
                  rw [as_get_put]
                  by_cases hxc : x = c
                  · rw [if_pos hxc]
                    show Value.bool _ = .bool (if c = x then _ else _)
                    rw [if_pos hxc.symm, hbn.out]
                  · rw [if_neg hxc]
                    show _ = Value.bool (if c = x then _ else _)
                    rw [if_neg (show ¬ c = x from fun e => hxc e.symm)]
                    exact hby.out c
              · have hjN' : ¬ (j : Int) < N := by omega
                have hnx : lane[j]? = none := List.getElem?_eq_none (by rw [hN.out]; omega)
                have hR2 := hide (hR1.out rfl)
                replace hnx := hide hnx
                have hvp : 0 < vt := by have := hleast.out; omega
                have hbn : Hide (decide (0 / 4 < vt) = true) := ⟨decide_eq_true hvp⟩
                go_wp2_with (first
                  | (go_at_call 14; (with_reducible refine (Ln_Weight H7.out vt hvt.out).mono ?_); rintro r1 w8 ⟨rfl, rfl⟩)
                  | (at_mapUpdate; refine wpList_update_map rfl _ _ _ rfl Tryz.underlying27 Tryz.underlying9 (Holds.p3 H7.out) x (.bool true) rfl rfl rfl ?_; intro w9 h9; have h9 := hide h9))
                go_roundg (n - (i + 1))
                case measure => rw [← hci.out]; omega
                case rel =>
                  refine ⟨i + 1, j + 1, s2, _, fun c => if c = x then decide (0 / 4 < vt) else by_ c, ⟨rfl⟩, by omega, rfl, by omega, rfl, hR2.out _ (fun c => by rw [hnx.out, hvt.out]; rfl), ⟨fun c => ?_⟩, h9.out.p2.drop⟩
                  rw [as_get_put]
                  by_cases hxc : x = c
                  · rw [if_pos hxc]
                    show Value.bool _ = .bool (if c = x then _ else _)
                    rw [if_pos hxc.symm, hbn.out]
                  · rw [if_neg hxc]
                    show _ = Value.bool (if c = x then _ else _)
                    rw [if_neg (show ¬ c = x from fun e => hxc e.symm)]
                    exact hby.out c
          · have S6' := S6.out rfl
            subst S6'
            have g3 : vt ≤ wt := S7.out rfl hbk1.out
            have f3 : decide ((wt : Int) < (vt : Int)) = false := decide_eq_false (by omega)
            cases out with
            | false =>
              have hR2 := hide (hR0.out rfl)
              go_wp2_with (go_at_call 14; (with_reducible refine (Ln_Weight H7.out vt hvt.out).mono ?_); rintro r1 w8 ⟨rfl, rfl⟩)
              go_roundg (n - (i + 1))
              case measure => rw [← hci.out]; omega
              case rel => exact ⟨i + 1, j, s2, l, by_, ⟨rfl⟩, by omega, rfl, by omega, rfl, hR2.out, hby, H7.out.p1.drop.p2⟩
            | true =>
              by_cases hjN : j < N
              · have hjN' : (j : Int) < N := by omega
                obtain ⟨nx, hnx⟩ : ∃ x, lane[j]? = some x := ⟨_, List.getElem?_eq_getElem (by rw [hN.out]; exact hjN)⟩
                obtain ⟨bn, on, han, cN⟩ := RowR.numCell hl.out hnx
                subst han
                have cn := H7.out.toKeep.cell cN
                have hR2 := hide (hR1.out rfl)
                replace hnx := hide hnx
                replace cN := hide cN
                obtain ⟨bv, hbv⟩ : ∃ bv, decide ((nx : Int) / 4 < (vt : Int)) = bv := ⟨_, rfl⟩
                have hbn : Hide (decide (nx / 4 < vt) = bv) := ⟨by rw [← hbv]; exact decide_eq_decide.2 (by omega)⟩
                go_wp2_with (first
                  | (go_at_call 14; (with_reducible refine (Ln_Weight H7.out vt hvt.out).mono ?_); rintro r1 w8 ⟨rfl, rfl⟩)
                  | (at_mapUpdate; refine wpList_update_map rfl _ _ _ rfl Tryz.underlying27 Tryz.underlying9 (Holds.p3 H7.out) x (.bool bv) rfl rfl rfl ?_; intro w9 h9; have h9 := hide h9))
                go_roundg (n - (i + 1))
                case measure => rw [← hci.out]; omega
                case rel =>
                  refine ⟨i + 1, j + 1, s2, _, fun c => if c = x then decide (nx / 4 < vt) else by_ c, ⟨rfl⟩, by omega, rfl, by omega, rfl, hR2.out _ (fun c => by rw [hnx.out, hvt.out]; rfl), ⟨fun c => ?_⟩, h9.out.p2.drop⟩
                  rw [as_get_put]
                  by_cases hxc : x = c
                  · rw [if_pos hxc]
                    show Value.bool _ = .bool (if c = x then _ else _)
                    rw [if_pos hxc.symm, hbn.out]
                  · rw [if_neg hxc]
                    show _ = Value.bool (if c = x then _ else _)
                    rw [if_neg (show ¬ c = x from fun e => hxc e.symm)]
                    exact hby.out c
              · have hjN' : ¬ (j : Int) < N := by omega
                have hnx : lane[j]? = none := List.getElem?_eq_none (by rw [hN.out]; omega)
                have hR2 := hide (hR1.out rfl)
                replace hnx := hide hnx
                have hvp : 0 < vt := by have := hleast.out; omega
                have hbn : Hide (decide (0 / 4 < vt) = true) := ⟨decide_eq_true hvp⟩
                go_wp2_with (first
                  | (go_at_call 14; (with_reducible refine (Ln_Weight H7.out vt hvt.out).mono ?_); rintro r1 w8 ⟨rfl, rfl⟩)
                  | (at_mapUpdate; refine wpList_update_map rfl _ _ _ rfl Tryz.underlying27 Tryz.underlying9 (Holds.p3 H7.out) x (.bool true) rfl rfl rfl ?_; intro w9 h9; have h9 := hide h9))
                go_roundg (n - (i + 1))
                case measure => rw [← hci.out]; omega
                case rel =>
                  refine ⟨i + 1, j + 1, s2, _, fun c => if c = x then decide (0 / 4 < vt) else by_ c, ⟨rfl⟩, by omega, rfl, by omega, rfl, hR2.out _ (fun c => by rw [hnx.out, hvt.out]; rfl), ⟨fun c => ?_⟩, h9.out.p2.drop⟩
                  rw [as_get_put]
                  by_cases hxc : x = c
                  · rw [if_pos hxc]
                    show Value.bool _ = .bool (if c = x then _ else _)
                    rw [if_pos hxc.symm, hbn.out]
                  · rw [if_neg hxc]
                    show _ = Value.bool (if c = x then _ else _)
                    rw [if_neg (show ¬ c = x from fun e => hxc e.symm)]
                    exact hby.out c
          · have S6' := S6.out rfl
            subst S6'
            have g3 : wt ≤ vt := S8.out rfl hbk1.out
            have f3 : decide ((vt : Int) < (wt : Int)) = false := decide_eq_false (by omega)
            cases out with
            | false =>
              have hR2 := hide (hR0.out rfl)
              go_wp2_with (go_at_call 14; (with_reducible refine (Ln_Weight H7.out vt hvt.out).mono ?_); rintro r1 w8 ⟨rfl, rfl⟩)
              go_roundg (n - (i + 1))
              case measure => rw [← hci.out]; omega
              case rel => exact ⟨i + 1, j, s2, l, by_, ⟨rfl⟩, by omega, rfl, by omega, rfl, hR2.out, hby, H7.out.p1.drop.p2⟩
            | true =>
              by_cases hjN : j < N
              · have hjN' : (j : Int) < N := by omega
                obtain ⟨nx, hnx⟩ : ∃ x, lane[j]? = some x := ⟨_, List.getElem?_eq_getElem (by rw [hN.out]; exact hjN)⟩
                obtain ⟨bn, on, han, cN⟩ := RowR.numCell hl.out hnx
                subst han
                have cn := H7.out.toKeep.cell cN
                have hR2 := hide (hR1.out rfl)
                replace hnx := hide hnx
                replace cN := hide cN
                obtain ⟨bv, hbv⟩ : ∃ bv, decide ((nx : Int) / 4 < (vt : Int)) = bv := ⟨_, rfl⟩
                have hbn : Hide (decide (nx / 4 < vt) = bv) := ⟨by rw [← hbv]; exact decide_eq_decide.2 (by omega)⟩
                go_wp2_with (first
                  | (go_at_call 14; (with_reducible refine (Ln_Weight H7.out vt hvt.out).mono ?_); rintro r1 w8 ⟨rfl, rfl⟩)
                  | (at_mapUpdate; refine wpList_update_map rfl _ _ _ rfl Tryz.underlying27 Tryz.underlying9 (Holds.p3 H7.out) x (.bool bv) rfl rfl rfl ?_; intro w9 h9; have h9 := hide h9))
                go_roundg (n - (i + 1))
                case measure => rw [← hci.out]; omega
                case rel =>
                  refine ⟨i + 1, j + 1, s2, _, fun c => if c = x then decide (nx / 4 < vt) else by_ c, ⟨rfl⟩, by omega, rfl, by omega, rfl, hR2.out _ (fun c => by rw [hnx.out, hvt.out]; rfl), ⟨fun c => ?_⟩, h9.out.p2.drop⟩
                  rw [as_get_put]
                  by_cases hxc : x = c
                  · rw [if_pos hxc]
                    show Value.bool _ = .bool (if c = x then _ else _)
                    rw [if_pos hxc.symm, hbn.out]
                  · rw [if_neg hxc]
                    show _ = Value.bool (if c = x then _ else _)
                    rw [if_neg (show ¬ c = x from fun e => hxc e.symm)]
                    exact hby.out c
              · have hjN' : ¬ (j : Int) < N := by omega
                have hnx : lane[j]? = none := List.getElem?_eq_none (by rw [hN.out]; omega)
                have hR2 := hide (hR1.out rfl)
                replace hnx := hide hnx
                have hvp : 0 < vt := by have := hleast.out; omega
                have hbn : Hide (decide (0 / 4 < vt) = true) := ⟨decide_eq_true hvp⟩
                go_wp2_with (first
                  | (go_at_call 14; (with_reducible refine (Ln_Weight H7.out vt hvt.out).mono ?_); rintro r1 w8 ⟨rfl, rfl⟩)
                  | (at_mapUpdate; refine wpList_update_map rfl _ _ _ rfl Tryz.underlying27 Tryz.underlying9 (Holds.p3 H7.out) x (.bool true) rfl rfl rfl ?_; intro w9 h9; have h9 := hide h9))
                go_roundg (n - (i + 1))
                case measure => rw [← hci.out]; omega
                case rel =>
                  refine ⟨i + 1, j + 1, s2, _, fun c => if c = x then decide (0 / 4 < vt) else by_ c, ⟨rfl⟩, by omega, rfl, by omega, rfl, hR2.out _ (fun c => by rw [hnx.out, hvt.out]; rfl), ⟨fun c => ?_⟩, h9.out.p2.drop⟩
                  rw [as_get_put]
                  by_cases hxc : x = c
                  · rw [if_pos hxc]
                    show Value.bool _ = .bool (if c = x then _ else _)
                    rw [if_pos hxc.symm, hbn.out]
                  · rw [if_neg hxc]
                    show _ = Value.bool (if c = x then _ else _)
                    rw [if_neg (show ¬ c = x from fun e => hxc e.symm)]
                    exact hby.out c
    · obtain rfl : i = n := by omega
      have hlt' : ¬ (i : Int) < i := by omega
      go_wp2
      go_ret
      exact ⟨rfl, h3.out.nil⟩
end Go.Proofs.YteledfiechbhgaaGreatDoor
