/- The law InstAdopts: its walk. -/
import Derived.Test.YtbbdimlpofjlfaaGreatDoorQRefs10
import Derived.Deep.DeepCutAuto
namespace Go.Proofs.YtbbdimlpofjlfaaGreatDoor
open Go Go.RowKit

set_option maxRecDepth 100000
set_option maxHeartbeats 4000000
theorem In_AdoptR {g w : World} {F : List SProp} {b tb m i : Nat} {x : In} {t : Tape} {k : ByteArray} {c : Ca} {d : Bool} (hI : IGood m i x t) (hi : i < 20000) (ha : x.c.adopt k = (c, d)) (h : Holds g w (IsIn b tb x :: F)) :
    Calls Tryz.prog 22 #[.pointer (some ⟨b, 0, none⟩), .string k] w fun r w' => r = .returned (.bool d) ∧ Holds g w' (IsIn b tb ⟨c, x.n, x.h⟩ :: F) := by
  have c := In_Adopt h k (4 * i) hI.fit (by omega)
  rw [ha] at c
  exact c
theorem walk_InstAdopts (kind most : Int) (vl vk : Value) (lane : List Nat) (keys : List ByteArray) (W : World) (hE : Env W) (hl : RowR W vl (nums64 lane)) (hll : ∀ x ∈ lane, x < 18446744073709551616) (hk : RowR W vk (strs keys)) :
    Calls Tryz.prog 6 #[.int .i64 kind, .int .i64 most, vl, vk] W fun e w' => e = .returned (.bool true) ∧ Holds W w' [] := by
  have hE := hide hE
  obtain ⟨al, cl, hvl⟩ := hl.shape
  obtain ⟨ak, ck, hvk⟩ := hk.shape
  rw [nums64_length] at hvl
  rw [strs_length] at hvk
  subst hvl
  subst hvk
  obtain ⟨N, hN⟩ : ∃ N, lane.length = N := ⟨_, rfl⟩
  obtain ⟨n, hn⟩ : ∃ n, keys.length = n := ⟨_, rfl⟩
  rw [hN] at hl ⊢
  rw [hn] at hk ⊢
  replace hN := hide hN
  replace hn := hide hn
  replace hl := hide hl
  replace hk := hide hk
  replace hll := hide hll
  have h0 := hide (Holds.start W)
  by_cases g1 : kind < 0
  · go_enter Tryz.func6, Tryz.ntmps6
    go_wp2_with (go_at_call 11; (with_reducible refine (awake11 W hE.out).mono ?_); rintro r w1 ⟨rfl, k1⟩)
    go_ret
    exact ⟨rfl, h0.out.keep k1⟩
  by_cases g2 : 6 < kind
  · go_enter Tryz.func6, Tryz.ntmps6
    go_wp2_with (go_at_call 11; (with_reducible refine (awake11 W hE.out).mono ?_); rintro r w1 ⟨rfl, k1⟩)
    go_ret
    exact ⟨rfl, h0.out.keep k1⟩
  by_cases g3 : most < 0
  · go_enter Tryz.func6, Tryz.ntmps6
    go_wp2_with (go_at_call 11; (with_reducible refine (awake11 W hE.out).mono ?_); rintro r w1 ⟨rfl, k1⟩)
    go_ret
    exact ⟨rfl, h0.out.keep k1⟩
  by_cases g4 : 1000 < most
  · go_enter Tryz.func6, Tryz.ntmps6
    go_wp2_with (go_at_call 11; (with_reducible refine (awake11 W hE.out).mono ?_); rintro r w1 ⟨rfl, k1⟩)
    go_ret
    exact ⟨rfl, h0.out.keep k1⟩
  by_cases g5 : 200 < n
  · have g5' : (200 : Int) < n := by omega
    go_enter Tryz.func6, Tryz.ntmps6
    go_wp2_with (go_at_call 11; (with_reducible refine (awake11 W hE.out).mono ?_); rintro r w1 ⟨rfl, k1⟩)
    go_ret
    exact ⟨rfl, h0.out.keep k1⟩
  have g5' : ¬ (200 : Int) < n := by omega
  by_cases g6 : 300 < N
  · have g6' : (300 : Int) < N := by omega
    go_enter Tryz.func6, Tryz.ntmps6
    go_wp2_with (go_at_call 11; (with_reducible refine (awake11 W hE.out).mono ?_); rintro r w1 ⟨rfl, k1⟩)
    go_ret
    exact ⟨rfl, h0.out.keep k1⟩
  have g6' : ¬ (300 : Int) < N := by omega
  obtain ⟨m, rfl⟩ : ∃ m : Nat, most = m := ⟨most.toNat, by omega⟩
  obtain ⟨kd, rfl⟩ : ∃ m : Nat, kind = m := ⟨kind.toNat, by omega⟩
  have hkd : Hide (kd < 7) := ⟨by omega⟩
  have hm : Hide (m ≤ 1000) := ⟨by omega⟩
  have hNl : Hide (lane.length ≤ 300) := ⟨by rw [hN.out]; omega⟩
  have hnl : Hide (n ≤ 200) := ⟨by omega⟩
  have htk : Hide (tOk [lane]) := ⟨by intro l hl x hx; rw [List.mem_singleton] at hl; subst hl; exact hll.out x hx⟩
  go_enter Tryz.func6, Tryz.ntmps6
  go_wp2_with (first
    | (go_at_call 11; (with_reducible refine (awake11 W hE.out).mono ?_); rintro r w1 ⟨rfl, k1⟩; have k1 := hide k1)
    | (go_at_call 13; (with_reducible refine (Draw_One _ lane (by have := hNl.out; omega) (fun wx hx => hl.out.keep hx.toKeep) (h0.out.keep k1.out)).mono ?_); rintro r w2 ⟨tb, rfl, h2⟩; have h2 := hide h2)
    | (go_at_call 12; (with_reducible refine (In_NewK (tb := tb) kd hkd.out m (by have := hm.out; omega) h2.out).mono ?_); rintro r w3 ⟨b, rfl, h3⟩; have h3 := hide h3))
  have hI0 := hide (IGood.new kd m 0 hkd.out (by have := hm.out; omega) [lane] htk.out)
  clear g1 g2 g3 g4 g5 g6 g5' g6'
  go_loopg [11, 12] (n) (fun c v z wr => ∃ i x t, Hide (n - i = c) ∧ i ≤ n ∧ z = .int .i64 (i : Nat) ∧ v = .int .i64 x.n ∧ Hide (IGood m i x t) ∧ Holds W wr (IsIn b tb x :: IsTape tb t :: []))
  case atStart => exact ⟨0, ⟨Ca.new kd m 0, 0, 0⟩, [lane], ⟨rfl⟩, Nat.zero_le _, rfl, rfl, hI0, h3.out⟩
  case round =>
    clear h3 hI0
    obtain ⟨i, x, t, hci, hin, rfl, rfl, hI, hh⟩ := hrel
    have h3 := hide hh
    clear hh
    by_cases hlt : i < n
    · have hlt' : (i : Int) < n := by omega
      have hnl2 := hnl.out
      have hi2 := hide (show i < 20000 by omega)
      have e1 : IntKind.i64.wrap ((i : Int) + 1) = ((i + 1 : Nat) : Int) := by rw [IntWalk.i64_in _ (by omega)]; omega
      obtain ⟨key, hx⟩ : ∃ x, keys[i]? = some x := ⟨_, List.getElem?_eq_getElem (by rw [hn.out]; exact hlt)⟩
      obtain ⟨bk, ok, hak, cW⟩ := RowR.strCell hk.out hx
      subst hak
      have cx := h3.out.toKeep.cell cW
      replace cW := hide cW
      clear hx
      by_cases hev : i % 2 = 0
      · have er : Int.tmod (i : Int) 2 = 0 := by have := Int.ofNat_tmod i 2; rw [hev] at this; exact this.symm
        have hn2 := hI.out.n
        have e2 : IntKind.i64.wrap (x.n + 1) = x.n + 1 := IntWalk.i64_in _ (by omega)
        clear hnl2 hev hn2
        go_wp2_with (go_at_call 15; (with_reducible refine (In_AskAny hI.out hi2.out h3.out).mono ?_); rintro r w4 ⟨rfl, h4⟩; have h4 := hide h4)
        go_roundg (n - (i + 1))
        case measure => rw [← hci.out]; omega
        case rel => exact ⟨i + 1, _, _, ⟨rfl⟩, by omega, rfl, rfl, ⟨hI.out.req key⟩, h4.out⟩
      · have er : Int.tmod (i : Int) 2 = 1 := by have := Int.ofNat_tmod i 2; rw [show i % 2 = 1 by omega] at this; exact this.symm
        obtain ⟨R, hR⟩ : ∃ R, x.c.res.length = R := ⟨_, rfl⟩
        have hRm : R ≤ m := by rw [← hR, ← hI.out.most]; exact hI.out.inv.le
        have hm2 := hm.out
        have hRl := hide (show R < 1000000 by omega)
        have e2 : IntKind.i64.wrap ((R : Int) + 1) = ((R + 1 : Nat) : Int) := by rw [IntWalk.i64_in _ (by omega)]; omega
        obtain ⟨d, hd⟩ : ∃ d, decide (key ∈ x.c.res) = d := ⟨_, rfl⟩
        have cH := hide (fun (w : World) (L : List SProp) (h : Holds W w (IsIn b tb x :: L)) => In_HasR hI.out.inv key d hd h)
        have cL := hide (fun (w : World) (L : List SProp) (h : Holds W w (IsIn b tb x :: L)) => In_LenR R hR hRl.out h)
        by_cases hroom : d = false ∧ R < m
        · obtain ⟨rfl, hRlt⟩ := hroom
          have hkn := of_decide_eq_false hd
          obtain ⟨a1, a2, a3⟩ := Ca.adopt_yes hI.out.inv key hkn (by rw [hI.out.most, hR]; exact hRlt)
          obtain ⟨⟨c2, dd⟩, hc2⟩ : ∃ q, x.c.adopt key = q := ⟨_, rfl⟩
          rw [hc2] at a1 a2 a3
          dsimp only at a1 a2 a3
          subst a3
          have hI2 := hI.out.adopt key
          rw [hc2] at hI2
          have hl2 := len_add hI.out.inv.nodup a1.nodup hkn a2
          rw [hR] at hl2
          have hRI : (R : Int) < m := by omega
          have cA := hide (fun (w : World) (L : List SProp) (h : Holds W w (IsIn b tb x :: L)) => In_AdoptR hI.out hi2.out hc2 h)
          have cH2 := hide (fun (w : World) (L : List SProp) (h : Holds W w (IsIn b tb ⟨c2, x.n, x.h⟩ :: L)) => In_HasR (x := ⟨c2, x.n, x.h⟩) a1 key true (decide_eq_true ((a2 key).2 (.inl rfl))) h)
          have cL2 := hide (fun (w : World) (L : List SProp) (h : Holds W w (IsIn b tb ⟨c2, x.n, x.h⟩ :: L)) => In_LenR (x := ⟨c2, x.n, x.h⟩) (R + 1) hl2 (by have := hRl.out; omega) h)
          replace hI2 := hide hI2
          clear a1 a2 hkn hc2 hl2 hRm hm2 hR hd hnl2 hev hRlt
          go_wp2_with (first
            | (go_at_call 18; (with_reducible refine (cH.out _ _ h3.out).mono ?_); rintro r w4 ⟨rfl, k4⟩; have h4 := hide (h3.out.keep k4); clear k4)
            | (go_at_call 19; (with_reducible refine (cL.out _ _ h4.out).mono ?_); rintro r w5 ⟨rfl, k5⟩; replace h4 := hide (h4.out.keep k5); have cx5 := h4.out.toKeep.cell cW.out; clear k5)
            | (go_at_call 22; (with_reducible refine (cA.out _ _ h4.out).mono ?_); rintro r w6 ⟨rfl, h6⟩; have cx6 := h6.toKeep.cell cW.out; replace h6 := hide h6; clear h4)
            | (go_at_call 18; (with_reducible refine (cH2.out _ _ h6.out).mono ?_); rintro r w7 ⟨rfl, k7⟩; have h7 := hide (h6.out.keep k7); clear k7)
            | (go_at_call 19; (with_reducible refine (cL2.out _ _ h7.out).mono ?_); rintro r w8 ⟨rfl, k8⟩; have h8 := hide (h7.out.keep k8); clear k8))
          go_roundg (n - (i + 1))
          case measure => rw [← hci.out]; omega
          case rel => exact ⟨i + 1, ⟨c2, x.n, x.h⟩, t, ⟨rfl⟩, by omega, rfl, rfl, hI2, h8.out⟩
        · have hno : key ∈ x.c.res ∨ x.c.most ≤ x.c.res.length := by
            cases d with
            | true => exact .inl (of_decide_eq_true hd)
            | false => exact .inr (by rw [hI.out.most, hR]; exact Nat.le_of_not_lt fun h => hroom ⟨rfl, h⟩)
          have hc2 := Ca.adopt_no hI.out.inv key hno
          have hRI : d = false → ¬ (R : Int) < m := fun e h => hroom ⟨e, by omega⟩
          have cA := hide (fun (w : World) (L : List SProp) (h : Holds W w (IsIn b tb x :: L)) => (show Calls _ _ _ _ fun r w' => r = .returned (.bool false) ∧ Holds W w' (IsIn b tb x :: L) from In_AdoptR hI.out hi2.out hc2 h))
          clear hno hc2 hRm hm2 hR hd hnl2 hev hroom
          cases d
          all_goals
            (first | replace hRI := hRI rfl | clear hRI)
            go_wp2_with (first
              | (go_at_call 18; (with_reducible refine (cH.out _ _ h3.out).mono ?_); rintro r w4 ⟨rfl, k4⟩; have h4 := hide (h3.out.keep k4); clear k4)
              | (go_at_call 19; (with_reducible refine (cL.out _ _ h4.out).mono ?_); rintro r w5 ⟨rfl, k5⟩; replace h4 := hide (h4.out.keep k5); have cx5 := h4.out.toKeep.cell cW.out; clear k5)
              | (go_at_call 22; (with_reducible refine (cA.out _ _ h4.out).mono ?_); rintro r w6 ⟨rfl, h6⟩; have cx6 := h6.toKeep.cell cW.out; replace h4 := hide h6))
            go_roundg (n - (i + 1))
            case measure => rw [← hci.out]; omega
            case rel => exact ⟨i + 1, x, t, ⟨rfl⟩, by omega, rfl, rfl, ⟨hI.out.mono (by omega)⟩, h4.out⟩
    · obtain rfl : i = n := by omega
      have hlt' : ¬ (i : Int) < i := by omega
      have cC := hide (fun (w : World) (L : List SProp) (h : Holds W w (IsIn b tb x :: L)) => In_Count2 h x.n x.h rfl rfl)
      go_wp2_with (go_at_call 16; (with_reducible refine (cC.out _ _ h3.out).mono ?_); rintro r w4 ⟨rfl, k4⟩; have h4 := hide (h3.out.keep k4); clear k4)
      go_ret
      exact ⟨rfl, h4.out.nil⟩
end Go.Proofs.YtbbdimlpofjlfaaGreatDoor
