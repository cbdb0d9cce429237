/- The law InstDrains: its walk. -/
import Derived.Test.YtbbdimlpofjlfaaGreatDoorQRefs10
import Derived.Deep.DeepCutAuto
namespace Go.Proofs.YtbbdimlpofjlfaaGreatDoor
open Go Go.RowKit

set_option maxRecDepth 100000
set_option maxHeartbeats 4000000
theorem In_VictimR {g w : World} {F : List SProp} {b tb : Nat} {x : In} (y : ByteArray) (d : Bool) (hx : x.c.victim = (y, d)) (h : Holds g w (IsIn b tb x :: F)) :
    Calls Tryz.prog 24 #[.pointer (some ⟨b, 0, none⟩)] w fun r w' => r = .returned (.tuple #[.string y, .bool d]) ∧ Keep w w' := In_Victim h y d hx
/-- What a drop tells. -/
theorem Ca.drop_tells {c : Ca} (h : c.Inv) (hr : c.res ≠ []) : ∃ v, c.victim = (v, true) ∧ v ∈ c.res ∧ v ∉ c.drop.res ∧ c.drop.res.length + 1 = c.res.length ∧ (∀ x ∈ c.drop.res, x ∈ c.res) := by
  obtain ⟨v1, v2⟩ := Ca.victim_res h
  obtain ⟨d1, _, _, _, d5, _⟩ := Ca.drop_res h
  have d5 := d5 hr
  have hb : (!c.res.isEmpty) = true := by cases hq : c.res with | nil => exact absurd hq hr | cons => rfl
  refine ⟨c.victim.1, ?_, v2 hr, fun hc => ((d5 _).1 hc).2 rfl, len_sub h.nodup d1.nodup (v2 hr) d5, fun x hx => ((d5 x).1 hx).1⟩
  rw [← hb, ← v1]
theorem walk_InstDrains (kind most : Int) (vl vk : Value) (lane : List Nat) (keys : List ByteArray) (W : World) (hE : Env W) (hl : RowR W vl (nums64 lane)) (hll : ∀ x ∈ lane, x < 18446744073709551616) (hk : RowR W vk (strs keys)) :
    Calls Tryz.prog 8 #[.int .i64 kind, .int .i64 most, vl, vk] W fun e w' => e = .returned (.bool true) ∧ Holds W w' [] := by
  have hE := hide hE
  obtain ⟨al, cl, hvl⟩ := hl.shape
  obtain ⟨ak, ck, hvk⟩ := hk.shape
  rw [nums64_length] at hvl
  rw [strs_length] at hvk
  subst hvl
  subst hvk
  obtain ⟨N, hN⟩ : ∃ N, lane.length = N := ⟨_, rfl⟩
  obtain ⟨n, hn⟩ : ∃ n, keys.length = n := ⟨_, rfl⟩
  rw [hN] at hl ⊢
  rw [hn] at hk ⊢
  replace hN := hide hN
  replace hn := hide hn
  replace hl := hide hl
  replace hk := hide hk
  replace hll := hide hll
  have h0 := hide (Holds.start W)
  by_cases g1 : kind < 0
  · go_enter Tryz.func8, Tryz.ntmps8
    go_wp2_with (go_at_call 11; (with_reducible refine (awake11 W hE.out).mono ?_); rintro r w1 ⟨rfl, k1⟩)
    go_ret
    exact ⟨rfl, h0.out.keep k1⟩
  by_cases g2 : 6 < kind
  · go_enter Tryz.func8, Tryz.ntmps8
    go_wp2_with (go_at_call 11; (with_reducible refine (awake11 W hE.out).mono ?_); rintro r w1 ⟨rfl, k1⟩)
    go_ret
    exact ⟨rfl, h0.out.keep k1⟩
  by_cases g3 : most < 1
  · go_enter Tryz.func8, Tryz.ntmps8
    go_wp2_with (go_at_call 11; (with_reducible refine (awake11 W hE.out).mono ?_); rintro r w1 ⟨rfl, k1⟩)
    go_ret
    exact ⟨rfl, h0.out.keep k1⟩
  by_cases g4 : 1000 < most
  · go_enter Tryz.func8, Tryz.ntmps8
    go_wp2_with (go_at_call 11; (with_reducible refine (awake11 W hE.out).mono ?_); rintro r w1 ⟨rfl, k1⟩)
    go_ret
    exact ⟨rfl, h0.out.keep k1⟩
  by_cases g5 : 200 < n
  · have g5' : (200 : Int) < n := by omega
    go_enter Tryz.func8, Tryz.ntmps8
    go_wp2_with (go_at_call 11; (with_reducible refine (awake11 W hE.out).mono ?_); rintro r w1 ⟨rfl, k1⟩)
    go_ret
    exact ⟨rfl, h0.out.keep k1⟩
  have g5' : ¬ (200 : Int) < n := by omega
  by_cases g6 : 300 < N
  · have g6' : (300 : Int) < N := by omega
    go_enter Tryz.func8, Tryz.ntmps8
    go_wp2_with (go_at_call 11; (with_reducible refine (awake11 W hE.out).mono ?_); rintro r w1 ⟨rfl, k1⟩)
    go_ret
    exact ⟨rfl, h0.out.keep k1⟩
  have g6' : ¬ (300 : Int) < N := by omega
  obtain ⟨m, rfl⟩ : ∃ m : Nat, most = m := ⟨most.toNat, by omega⟩
  obtain ⟨kd, rfl⟩ : ∃ m : Nat, kind = m := ⟨kind.toNat, by omega⟩
  have hkd : Hide (kd < 7) := ⟨by omega⟩
  have hm : Hide (m ≤ 1000) := ⟨by omega⟩
  have hNl : Hide (lane.length ≤ 300) := ⟨by rw [hN.out]; omega⟩
  have hnl : Hide (n ≤ 200) := ⟨by omega⟩
  have htk : Hide (tOk [lane]) := ⟨by intro l hl x hx; rw [List.mem_singleton] at hl; subst hl; exact hll.out x hx⟩
  go_enter Tryz.func8, Tryz.ntmps8
  go_wp2_with (first
    | (go_at_call 11; (with_reducible refine (awake11 W hE.out).mono ?_); rintro r w1 ⟨rfl, k1⟩; have k1 := hide k1)
    | (go_at_call 13; (with_reducible refine (Draw_One _ lane (by have := hNl.out; omega) (fun wx hx => hl.out.keep hx.toKeep) (h0.out.keep k1.out)).mono ?_); rintro r w2 ⟨tb, rfl, h2⟩; have h2 := hide h2)
    | (go_at_call 12; (with_reducible refine (In_NewK (tb := tb) kd hkd.out m (by have := hm.out; omega) h2.out).mono ?_); rintro r w3 ⟨b, rfl, h3⟩; have h3 := hide h3))
  have hI0 := hide (IGood.new kd m 0 hkd.out (by have := hm.out; omega) [lane] htk.out)
  clear g1 g2 g3 g4 g5 g6 g5' g6'
  go_loopg [11] (n) (fun c z wr => ∃ i x t, Hide (n - i = c) ∧ i ≤ n ∧ z = .int .i64 (i : Nat) ∧ Hide (IGood m i x t) ∧ Holds W wr (IsIn b tb x :: IsTape tb t :: []))
  case atStart => exact ⟨0, ⟨Ca.new kd m 0, 0, 0⟩, [lane], ⟨rfl⟩, Nat.zero_le _, rfl, hI0, h3.out⟩
  case round =>
    clear h3 hI0
    obtain ⟨i, x, t, hci, hin, rfl, hI, hh⟩ := hrel
    have h3 := hide hh
    clear hh
    by_cases hlt : i < n
    · have hlt' : (i : Int) < n := by omega
      have hnl2 := hnl.out
      have hi2 := hide (show i < 20000 by omega)
      have e1 : IntKind.i64.wrap ((i : Int) + 1) = ((i + 1 : Nat) : Int) := by rw [IntWalk.i64_in _ (by omega)]; omega
      obtain ⟨key, hx⟩ : ∃ x, keys[i]? = some x := ⟨_, List.getElem?_eq_getElem (by rw [hn.out]; exact hlt)⟩
      obtain ⟨bk, ok, hak, cW⟩ := RowR.strCell hk.out hx
      subst hak
      have cx := h3.out.toKeep.cell cW
      clear hx cW hnl2
      go_wp2_with (go_at_call 15; (with_reducible refine (In_AskAny hI.out hi2.out h3.out).mono ?_); rintro r w4 ⟨rfl, h4⟩; have h4 := hide h4)
      go_roundg (n - (i + 1))
      case measure => rw [← hci.out]; omega
      case rel => exact ⟨i + 1, _, _, ⟨rfl⟩, by omega, rfl, ⟨hI.out.req key⟩, h4.out⟩
    · obtain rfl : i = n := by omega
      have hlt' : ¬ (i : Int) < i := by omega
      have hi200 := hnl.out
      have hi2 := hide (show i < 20000 by omega)
      have hm2 := hm.out
      obtain ⟨R, hR⟩ : ∃ R, x.c.res.length = R := ⟨_, rfl⟩
      have hRm : R ≤ m := by rw [← hR, ← hI.out.most]; exact hI.out.inv.le
      have hRl : R ≤ 1000 := by omega
      obtain ⟨gs, hgs⟩ : ∃ gs, x.c.ghosts = gs := ⟨_, rfl⟩
      obtain ⟨G, hG⟩ : ∃ G, gs.length = G := ⟨_, rfl⟩
      have hGl := hide (show G ≤ 10000000 by have := hI.out.fit.ghosts; rw [hgs, hG] at this; omega)
      have cK := hide (fun (w : World) (L : List SProp) (h : Holds W w (IsIn b tb x :: L)) => by have c := In_KeysI hI.out hi2.out h; rw [hR] at c; exact c)
      have cG := hide (fun (w : World) (L : List SProp) (h : Holds W w (IsIn b tb x :: L)) => by have c := In_GhostsI hI.out hi2.out h; rw [hgs, hG] at c; exact c)
      have hxl := hide (show x.c.res.length ≤ 10000000 by omega)
      replace hR := hide hR
      replace hG := hide hG
      replace hgs := hide hgs
      replace hRl := hide hRl
      clear hi200 hm2 hRm
      go_wp2_with (first
        | (go_at_call 14; (with_reducible refine (cK.out _ _ h3.out).mono ?_); rintro r w4 ⟨ao, cap, rfl, h4⟩; have h4 := hide (Holds.p1 h4))
        | (go_at_call 21; (with_reducible refine (cG.out _ _ h4.out).mono ?_); rintro r w5 ⟨ao5, cap5, rfl, h5⟩; have h5 := hide (Holds.p1 h5)))
      go_loopg [14] (R) (fun c z wr => ∃ j y, Hide (R - j = c) ∧ j ≤ R ∧ z = .int .i64 (j : Nat) ∧ Hide (IGood m i y t) ∧ Hide (y.c.res.length + j = R ∧ y.c.ghosts = gs ∧ ∀ q ∈ y.c.res, q ∈ x.c.res) ∧ Holds W wr (IsIn b tb y :: OwnStrs (.slice ao5 G cap5) gs :: OwnStrs (.slice ao R cap) x.c.keys :: []))
      case atStart => exact ⟨0, x, ⟨rfl⟩, Nat.zero_le _, rfl, hI, ⟨⟨hR.out, hgs.out, fun _ h => h⟩⟩, Holds.drop (Holds.p3 h5.out)⟩
      case round =>
        clear h3 h4 h5 cK cG
        obtain ⟨j, y, hcj, hjR, rfl, hIy, hy, hj⟩ := hrel
        replace hj := hide hj
        by_cases hjl : j < R
        · have hjl' : (j : Int) < R := by omega
          have hRl2 := hRl.out
          have hyl := hy.out.1
          have e3 : IntKind.i64.wrap ((j : Int) + 1) = ((j + 1 : Nat) : Int) := by rw [IntWalk.i64_in _ (by omega)]; omega
          obtain ⟨v, d1, d2, d3, d4, d5⟩ := Ca.drop_tells hIy.out.inv (fun e => by rw [e] at hyl; simp only [List.length_nil] at hyl; omega)
          obtain ⟨_, _, _, q4, _⟩ := Ca.drop_res hIy.out.inv
          obtain ⟨z, hz⟩ : ∃ z : In, ⟨y.c.drop, y.n, y.h⟩ = z := ⟨_, rfl⟩
          have hIz := hIy.out.drop
          rw [hz] at hIz
          rw [show y.c.drop = z.c by rw [← hz]] at d3 d4 d5 q4
          obtain ⟨L, hL⟩ : ∃ L, z.c.res.length = L := ⟨_, rfl⟩
          rw [hL] at d4
          have e4 : IntKind.i64.wrap ((R : Int) - (j : Int)) = (L : Int) + 1 := by rw [IntWalk.i64_in _ (by omega)]; omega
          have e6 : IntKind.i64.wrap (L : Int) = (L : Int) := IntWalk.i64_in _ (by omega)
          have e7 : IntKind.i64.wrap ((L : Int) + 1 - 1) = (L : Int) := by rw [IntWalk.i64_in _ (by omega)]; omega
          have cV := hide (fun (w : World) (L : List SProp) (h : Holds W w (IsIn b tb y :: L)) => In_VictimR v true d1 h)
          have cD := hide (fun (w : World) (L : List SProp) (h : Holds W w (IsIn b tb y :: L)) => by have c := In_Drop h v true d1 hIy.out.inv; rw [hz] at c; exact c)
          have cH := hide (fun (w : World) (L : List SProp) (h : Holds W w (IsIn b tb z :: L)) => In_HasR hIz.inv v false (decide_eq_false d3) h)
          have cR := hide (fun (w : World) (h : RowAt w (.slice ao R cap) (strs x.c.keys)) => Ref_HasK h hxl.out v true (decide_eq_true (hy.out.2.2 v d2)))
          have cL := hide (fun (w : World) (M : List SProp) (h : Holds W w (IsIn b tb z :: M)) => In_LenR L hL (by omega) h)
          replace hIz := hide hIz
          have hzf : Hide (z.c.res.length + (j + 1) = R ∧ z.c.ghosts = gs ∧ ∀ q ∈ z.c.res, q ∈ x.c.res) := ⟨by omega, q4.trans hy.out.2.1, fun q hq => hy.out.2.2 q (d5 q hq)⟩
          clear d1 d2 d3 d4 d5 q4 hz hyl hRl2 hL hy hIy
          go_wp2_with (first
            | (go_at_call 24; (with_reducible refine (cV.out _ _ hj.out).mono ?_); rintro r w6 ⟨rfl, k6⟩; have h6 := hide (hj.out.keep k6); clear k6)
            | (go_at_call 25; (with_reducible refine (cD.out _ _ h6.out).mono ?_); rintro r w7 ⟨rfl, h7⟩; have h7 := hide h7)
            | (go_at_call 18; (with_reducible refine (cH.out _ _ h7.out).mono ?_); rintro r w8 ⟨rfl, k8⟩; have h8 := hide (h7.out.keep k8); clear k8)
            | (go_at_call 17; (with_reducible refine (cR.out _ (Holds.strsAt (Holds.p2 h8.out))).mono ?_); rintro r w9 ⟨rfl, rfl⟩)
            | (go_at_call 19; (with_reducible refine (cL.out _ _ h8.out).mono ?_); rintro r w10 ⟨rfl, k10⟩; have h10 := hide (h8.out.keep k10); clear k10))
          go_roundg (R - (j + 1))
          case measure => rw [← hcj.out]; omega
          case rel => exact ⟨j + 1, z, ⟨rfl⟩, by omega, rfl, hIz, hzf, h10.out⟩
        · obtain rfl : j = R := by omega
          have hjl' : ¬ (j : Int) < j := by omega
          obtain ⟨y1, y2, _⟩ := hy.out
          have hy0 : y.c.res = [] := List.length_eq_zero_iff.1 (by omega)
          obtain ⟨q1, _, _, _, _, q6⟩ := Ca.drop_res hIy.out.inv
          have q6 := q6 hy0
          obtain ⟨u, hu⟩ : ∃ u, y.c.victim.1 = u := ⟨_, rfl⟩
          have hv : y.c.victim = (u, false) := by
            have := (Ca.victim_res hIy.out.inv).1
            rw [hy0] at this
            rw [← hu]
            exact Prod.ext rfl this
          have cD := hide (fun (w : World) (L : List SProp) (h : Holds W w (IsIn b tb y :: L)) => by
            have c := In_Drop h u false hv hIy.out.inv
            rw [q6] at c
            exact c)
          have cG := hide (fun (w : World) (L : List SProp) (h : Holds W w (IsIn b tb y :: L)) => by have c := In_GhostsI hIy.out hi2.out h; rw [y2, hG.out] at c; exact c)
          have cS := hide (fun (w : World) (a b : Value) (h1 : RowAt w a (strs gs)) (h2 : RowAt w b (strs gs)) => Ref3_Same h1 h2 (by rw [hG.out]; exact hGl.out))
          clear q1 q6 hu hv hy0 y1 y2
          go_wp2_with (first
            | (go_at_call 25; (with_reducible refine (cD.out _ _ hj.out).mono ?_); rintro r w11 ⟨rfl, h11⟩; have h11 := hide h11)
            | (go_at_call 21; (with_reducible refine (cG.out _ _ h11.out).mono ?_); rintro r w12 ⟨ao6, cap6, rfl, h12⟩; have h12 := hide h12)
            | (go_at_call 20; (with_reducible refine (cS.out _ _ _ (Holds.strsAt h12.out) (Holds.strsAt (Holds.p2 h12.out))).mono ?_); rintro r w13 ⟨rfl, dn, rfl⟩; have h13 := hide (h12.out.drewN (n := dn))))
          go_ret
          exact ⟨rfl, h13.out.nil⟩
end Go.Proofs.YtbbdimlpofjlfaaGreatDoor
