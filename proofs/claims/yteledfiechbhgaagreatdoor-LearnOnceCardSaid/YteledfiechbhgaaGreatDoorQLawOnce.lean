/- The law LearnOnce: its walk. -/
import Derived.Test.YteledfiechbhgaaGreatDoorQLawTools
import Derived.Test.YteledfiechbhgaaGreatDoorQTwRates
import Derived.Deep.DeepCutAuto
namespace Go.Proofs.YteledfiechbhgaaGreatDoor
open Go Go.RowKit

set_option maxRecDepth 100000
set_option maxHeartbeats 4000000
theorem walk_LearnOnce (kind most : Int) (vl vk : Value) (lane : List Nat) (keys : List ByteArray) (W : World) (hE : Env W) (hl : RowR W vl (nums64 lane)) (hll : ∀ x ∈ lane, x < 18446744073709551616) (hk : RowR W vk (strs keys)) :
    Calls Tryz.prog 4 #[.int .i64 kind, .int .i64 most, vl, vk] W fun e w' => e = .returned (.bool true) ∧ Holds W w' [] := by
  have hE := hide hE
  obtain ⟨al, cl, hvl⟩ := hl.shape
  obtain ⟨ak, ck, hvk⟩ := hk.shape
  rw [nums64_length] at hvl
  rw [strs_length] at hvk
  subst hvl
  subst hvk
  obtain ⟨N, hN⟩ : ∃ N, lane.length = N := ⟨_, rfl⟩
  obtain ⟨n, hn⟩ : ∃ n, keys.length = n := ⟨_, rfl⟩
  rw [hN] at hl ⊢
  rw [hn] at hk ⊢
  replace hN := hide hN
  replace hn := hide hn
  replace hl := hide hl
  replace hk := hide hk
  replace hll := hide hll
  have h0 := hide (Holds.start W)
  by_cases g1 : 200 < n
  · have g1' : (200 : Int) < n := by omega
    go_enter Tryz.func4, Tryz.ntmps4
    go_wp2_with (go_at_call 11; (with_reducible refine (awake10 W hE.out).mono ?_); rintro r w1 ⟨rfl, k1⟩)
    go_ret
    exact ⟨rfl, h0.out.keep k1⟩
  have g1' : ¬ (200 : Int) < n := by omega
  by_cases g2 : 300 < N
  · have g2' : (300 : Int) < N := by omega
    go_enter Tryz.func4, Tryz.ntmps4
    go_wp2_with (go_at_call 11; (with_reducible refine (awake10 W hE.out).mono ?_); rintro r w1 ⟨rfl, k1⟩)
    go_ret
    exact ⟨rfl, h0.out.keep k1⟩
  have g2' : ¬ (300 : Int) < N := by omega
  by_cases g3 : kind < 5
  · go_enter Tryz.func4, Tryz.ntmps4
    go_wp2_with (go_at_call 11; (with_reducible refine (awake10 W hE.out).mono ?_); rintro r w1 ⟨rfl, k1⟩)
    go_ret
    exact ⟨rfl, h0.out.keep k1⟩
  by_cases g4 : 6 < kind
  · go_enter Tryz.func4, Tryz.ntmps4
    go_wp2_with (go_at_call 11; (with_reducible refine (awake10 W hE.out).mono ?_); rintro r w1 ⟨rfl, k1⟩)
    go_ret
    exact ⟨rfl, h0.out.keep k1⟩
  by_cases g5 : most < 1
  · go_enter Tryz.func4, Tryz.ntmps4
    go_wp2_with (go_at_call 11; (with_reducible refine (awake10 W hE.out).mono ?_); rintro r w1 ⟨rfl, k1⟩)
    go_ret
    exact ⟨rfl, h0.out.keep k1⟩
  by_cases g6 : 1000 < most
  · go_enter Tryz.func4, Tryz.ntmps4
    go_wp2_with (go_at_call 11; (with_reducible refine (awake10 W hE.out).mono ?_); rintro r w1 ⟨rfl, k1⟩)
    go_ret
    exact ⟨rfl, h0.out.keep k1⟩
  obtain ⟨m, rfl⟩ : ∃ m : Nat, most = m := ⟨most.toNat, by omega⟩
  have hk56 : Hide (kind = 5 ∨ kind = 6) := ⟨by omega⟩
  have hm : Hide (0 < m ∧ m ≤ 1000) := ⟨by omega⟩
  have hNl : Hide (lane.length ≤ 300) := ⟨by rw [hN.out]; omega⟩
  have hnl : Hide (n ≤ 200) := ⟨by omega⟩
  go_enter Tryz.func4, Tryz.ntmps4
  go_wp2_with (first
    | (go_at_call 11; (with_reducible refine (awake10 W hE.out).mono ?_); rintro r w1 ⟨rfl, k1⟩; have k1 := hide k1)
    | (go_at_call 12; (with_reducible refine (Made kind hk56.out m (by have := hm.out; omega) _ lane (by have := hNl.out; omega) (fun wx hx => hl.out.keep hx.toKeep) (h0.out.keep k1.out)).mono ?_); rintro r w2 ⟨b, tb, rfl, h2⟩; have h2 := hide h2))
  have hO0 := hide (Once.new kind m [lane] (by intro l hl x hx; rw [List.mem_singleton] at hl; subst hl; exact hll.out x hx))
  clear g1 g2 g3 g4 g5 g6 g1' g2'
  go_loopg [10, 11] (n) (fun c v x wr => ∃ i row s, Hide (n - i = c) ∧ i ≤ n ∧ x = .int .i64 (i : Nat) ∧ row.length ≤ i ∧ Once m i row s ∧ Holds W wr (OwnStrs v row :: IsLn b tb s :: IsTape tb s.tape :: []))
  case atStart => exact ⟨0, [], Ln.new kind m [lane] 0, ⟨rfl⟩, Nat.zero_le _, rfl, Nat.le_refl _, hO0.out, h2.out.ownNil 9 1⟩
  case round =>
    clear h2 hO0
    obtain ⟨i, row, s, hci, hin, rfl, hri, hO, hh⟩ := hrel
    have h3 := hide hh
    clear hh
    by_cases hlt : i < n
    · have hlt' : (i : Int) < n := by omega
      have hnl2 := hnl.out
      have e1 : IntKind.i64.wrap ((i : Int) + 1) = ((i + 1 : Nat) : Int) := by rw [IntWalk.i64_in _ (by omega)]; omega
      obtain ⟨key, hx⟩ : ∃ x, keys[i]? = some x := ⟨_, List.getElem?_eq_getElem (by rw [hn.out]; exact hlt)⟩
      obtain ⟨bk, ok, hak, cW⟩ := RowR.strCell hk.out hx
      subst hak
      have cx := h3.out.toKeep.cell cW
      replace cW := hide cW
      replace hx := hide hx
      replace hO := hide hO
      by_cases hks : 200 < key.size
      · have hks' : (200 : Int) < key.size := by omega
        clear hks
        go_wp2
        go_ret
        exact ⟨rfl, h3.out.nil⟩
      · have hks' : ¬ (200 : Int) < key.size := by omega
        clear hks
        obtain ⟨av, cv, hv⟩ := (Holds.strsAt h3.out).shape
        rw [strs_length] at hv
        subst hv
        by_cases hmem : key ∈ row
        · have cH := hide (Ref3_Has (Holds.strsAt h3.out) (by omega) key true (decide_eq_true hmem))
          go_wp2_with (go_at_call 15; (with_reducible refine (cH.out).mono ?_); rintro r w4 ⟨rfl, rfl⟩)
          go_roundg (n - (i + 1))
          case measure => rw [← hci.out]; omega
          case rel => exact ⟨i + 1, row, s, ⟨rfl⟩, by omega, rfl, by omega, hO.out.stay, h3.out⟩
        · have cH := hide (Ref3_Has (Holds.strsAt h3.out) (by omega) key false (decide_eq_false hmem))
          obtain ⟨hO2, hhit, hout⟩ := hO.out.req hm.out.1 key hmem
          obtain ⟨⟨s2, ⟨hit, x, out⟩⟩, hs2⟩ : ∃ q, s.req key = q := ⟨_, rfl⟩
          rw [hs2] at hO2 hhit hout
          dsimp only at hO2 hhit hout
          subst hhit
          have hsm : Hide (s.most ≤ 16777216) := ⟨by rw [hO.out.most]; have := hm.out; omega⟩
          have cR := hide (fun (w' : World) (L : List SProp) (hw : Holds W w' (IsLn b tb s :: IsTape tb s.tape :: L)) => by
            have c := Ln_Request hw key (4 * i) hO.out.fit (by omega) hsm.out
            rw [hs2] at c
            dsimp only [stepV] at c
            exact c)
          replace hs2 := hide hs2
          replace hO2 := hide hO2
          replace hout := hide hout
          have hrl : Hide (row.length + [key].length ≤ 2000000) := ⟨by simp only [List.length_singleton]; omega⟩
          obtain ⟨row2, hrow2⟩ : ∃ r, row ++ [key] = r := ⟨_, rfl⟩
          obtain ⟨R, hR⟩ : ∃ r, row2.length = r := ⟨_, rfl⟩
          have hRi : R = row.length + 1 := by rw [← hR, ← hrow2, List.length_append, List.length_singleton]
          replace hrow2 := hide hrow2
          replace hR := hide hR
          replace hRi := hide hRi
          go_upto_region 16 with (first
            | (go_at_call 15; (with_reducible refine (cH.out).mono ?_); rintro r w4 ⟨rfl, rfl⟩)
            | (at_builtin; refine wpList_append_strs rfl _ _ rfl (Holds.p1 (Holds.oneStr (h3.out.alloc (o := .cells #[.string key] 9)))) hrl.out rfl rfl ?_; intro v5 w5 h5; rw [hrow2.out] at h5; obtain ⟨a5, c5, hv5⟩ := (Holds.strsAt h5).shape; rw [strs_length, hR.out] at hv5; subst hv5; have cx5 := h5.toKeep.cell cW.out; have h5 := hide h5))
          go_upto_region 17 with (go_at_call 17; (with_reducible refine (cR.out _ _ (Holds.p2 (Holds.p2 h5.out))).mono ?_); rintro r1 w6 ⟨rfl, h6⟩; have h6 := hide h6)
          obtain ⟨ry, hry⟩ : ∃ r, w6.heap.size = r := ⟨_, rfl⟩
          have H7 := (h6.out.alloc (o := .cells #[.bool false, .string x, .bool out] 36)).p1
          rw [hry] at H7
          try simp only [hry]
          generalize w6.alloc (.cells #[.bool false, .string x, .bool out] 36) = W7 at H7 ⊢
          have z0 : W7.cell? ⟨ry, 0, none⟩ = some (.bool false) := Holds.cell (Holds.p1 H7) rfl
          have z2 : W7.cell? ⟨ry, 2, none⟩ = some (.bool out) := Holds.cell (Holds.p1 H7) rfl
          have H7 := hide H7
          obtain ⟨gs, hgs⟩ : ∃ gs, s2.ghosts = gs := ⟨_, rfl⟩
          obtain ⟨GL, hGL⟩ : ∃ G, gs.length = G := ⟨_, rfl⟩
          obtain ⟨ln, hln⟩ : ∃ x, s2.len = x := ⟨_, rfl⟩
          obtain ⟨q1, q2⟩ := hO2.out.ghosts
          rw [hrow2.out, hR.out, hgs, hGL] at q1 q2
          rw [← Ln.len_res, hln] at q1 q2
          have hRo := hRi.out
          have hw2 : Hide (s2.w = 2305843009213693952) := ⟨hO2.out.w⟩
          have cG := hide (fun (w' : World) (L : List SProp) (hw : Holds W w' (IsLn b tb s2 :: L)) => by
            have c := Ln_Ghosts hw (by have := hgs; unfold Ln.ghosts at this; have h2 := congrArg List.length this; rw [List.length_append, hGL] at h2; omega)
            rw [hgs] at c
            exact c)
          have hlm : s2.len < 1000000 := by omega
          replace hln := hide hln
          replace hgs := hide hgs
          replace hGL := hide hGL
          obtain ⟨d, hd⟩ : ∃ d, R - ln = d := ⟨_, rfl⟩
          rw [hd] at q2
          obtain ⟨mn, hmn⟩ : ∃ q, min m d = q := ⟨_, rfl⟩
          rw [hmn] at q2
          have e5 : IntKind.i64.wrap ((R : Int) - (ln : Int)) = (d : Int) := by rw [IntWalk.i64_in _ (by omega)]; omega
          have e6 : decide ((d : Int) < (GL : Int)) = false := decide_eq_false (by omega)
          have e6' : GL ≤ d := by omega
          have e7 : min (m : Int) (d : Int) = (mn : Int) := by omega
          have e8 : decide ((GL : Int) < (mn : Int)) = false := decide_eq_false (by omega)
          have ho : (out != decide ((m : Int) < (R : Int))) = false := by
            rw [hout.out, show decide ((m : Int) < (R : Int)) = decide (m < row.length + 1) from decide_eq_decide.2 (by omega), bne_self_eq_false]
          clear hRo cR h5 h6 hry hd hmn q1 cx cx5 hsm hout hs2 cH hmem hrl
          cases out
          all_goals
            by_cases hmR : m < R
          all_goals
            first
              | (exfalso; rw [show decide ((m : Int) < (R : Int)) = true from decide_eq_true (by omega)] at ho; cases ho; done)
              | (exfalso; rw [show decide ((m : Int) < (R : Int)) = false from decide_eq_false (by omega)] at ho; cases ho; done)
              | skip
          all_goals
            go_wp2_with (first
              | (go_at_call 14; (with_reducible refine (Ln_Weight H7.out 2305843009213693952 hw2.out).mono ?_); rintro q3 w20 ⟨rfl, rfl⟩)
              | (go_at_call 16; (with_reducible refine (cG.out _ _ H7.out).mono ?_); rintro q4 w21 ⟨v8, rfl, h8⟩; obtain ⟨a8, c8, hv8⟩ := (Holds.strsAt h8).shape; rw [strs_length, hGL.out] at hv8; subst hv8; have h8 := hide h8)
              | (go_at_call 18; (with_reducible refine (Ln_Len (Holds.p1 h8.out) ln hln.out hlm).mono ?_); rintro q5 w22 ⟨rfl, dn, rfl⟩; have h9 := hide (h8.out.drewN (n := dn)).p1)
              | (go_at_call 16; (with_reducible refine (cG.out _ _ h9.out).mono ?_); rintro q6 w23 ⟨v10, rfl, h10⟩; obtain ⟨a10, c10, hv10⟩ := (Holds.strsAt h10).shape; rw [strs_length, hGL.out] at hv10; subst hv10; have h10 := hide h10)
              | (go_at_call 18; (with_reducible refine (Ln_Len (Holds.p1 h10.out) ln hln.out hlm).mono ?_); rintro q7 w24 ⟨rfl, dn2, rfl⟩; have h11 := hide (h10.out.drewN (n := dn2))))
            go_roundg (n - (i + 1))
            case measure => rw [← hci.out]; omega
            case rel => exact ⟨i + 1, row2, s2, ⟨rfl⟩, by omega, rfl, by rw [hR.out, hRi.out]; omega, by rw [← hrow2.out]; exact hO2.out, h11.out.drop.p1.drop.p1.drop.p2⟩
    · obtain rfl : i = n := by omega
      have hlt' : ¬ (i : Int) < i := by omega
      obtain ⟨R, hR⟩ : ∃ r, row.length = r := ⟨_, rfl⟩
      obtain ⟨av, cv, hv⟩ := (Holds.strsAt h3.out).shape
      rw [strs_length, hR] at hv
      subst hv
      obtain ⟨ln, hln⟩ : ∃ x, s.len = x := ⟨_, rfl⟩
      have q1 := hO.len
      rw [← Ln.len_res, hln, hR] at q1
      have e7 : min (m : Int) (R : Int) = (ln : Int) := by omega
      have hlm : s.len < 1000000 := by have := hm.out; omega
      replace hln := hide hln
      clear hR hri
      go_wp2_with (go_at_call 18; (with_reducible refine (Ln_Len (Holds.p1 h3.out) ln hln.out hlm).mono ?_); rintro q3 w22 ⟨rfl, dn, rfl⟩; have h9 := hide (h3.out.drewN (n := dn)))
      go_ret
      exact ⟨rfl, h9.out.nil⟩
end Go.Proofs.YteledfiechbhgaaGreatDoor
