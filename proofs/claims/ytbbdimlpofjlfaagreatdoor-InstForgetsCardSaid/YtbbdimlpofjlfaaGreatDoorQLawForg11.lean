/- The law InstForgets: its walk. -/
import Derived.Test.YtbbdimlpofjlfaaGreatDoorQRefs10
import Derived.Test.YtbbdimlpofjlfaaGreatDoorQLawKeeps
import Derived.Deep.DeepCutAuto
namespace Go.Proofs.YtbbdimlpofjlfaaGreatDoor
open Go Go.RowKit

set_option maxRecDepth 100000
set_option maxHeartbeats 4000000
theorem walk_InstForgets (kind most which : Int) (vl vk : Value) (lane : List Nat) (keys : List ByteArray) (W : World) (hE : Env W) (hw : which < 9223372036854775808) (hl : RowR W vl (nums64 lane)) (hll : ∀ x ∈ lane, x < 18446744073709551616) (hk : RowR W vk (strs keys)) :
    Calls Tryz.prog 7 #[.int .i64 kind, .int .i64 most, vl, vk, .int .i64 which] W fun e w' => e = .returned (.bool true) ∧ Holds W w' [] := by
  have hE := hide hE
  obtain ⟨al, cl, hvl⟩ := hl.shape
  obtain ⟨ak, ck, hvk⟩ := hk.shape
  rw [nums64_length] at hvl
  rw [strs_length] at hvk
  subst hvl
  subst hvk
  obtain ⟨N, hN⟩ : ∃ N, lane.length = N := ⟨_, rfl⟩
  obtain ⟨n, hn⟩ : ∃ n, keys.length = n := ⟨_, rfl⟩
  rw [hN] at hl ⊢
  rw [hn] at hk ⊢
  replace hN := hide hN
  replace hn := hide hn
  replace hl := hide hl
  replace hk := hide hk
  replace hll := hide hll
  have h0 := hide (Holds.start W)
  replace hw := hide hw
  by_cases g1 : kind < 0
  · go_enter Tryz.func7, Tryz.ntmps7
    go_wp2_with (go_at_call 11; (with_reducible refine (awake11 W hE.out).mono ?_); rintro r w1 ⟨rfl, k1⟩)
    go_ret
    exact ⟨rfl, h0.out.keep k1⟩
  by_cases g2 : 6 < kind
  · go_enter Tryz.func7, Tryz.ntmps7
    go_wp2_with (go_at_call 11; (with_reducible refine (awake11 W hE.out).mono ?_); rintro r w1 ⟨rfl, k1⟩)
    go_ret
    exact ⟨rfl, h0.out.keep k1⟩
  by_cases g3 : most < 1
  · go_enter Tryz.func7, Tryz.ntmps7
    go_wp2_with (go_at_call 11; (with_reducible refine (awake11 W hE.out).mono ?_); rintro r w1 ⟨rfl, k1⟩)
    go_ret
    exact ⟨rfl, h0.out.keep k1⟩
  by_cases g4 : 1000 < most
  · go_enter Tryz.func7, Tryz.ntmps7
    go_wp2_with (go_at_call 11; (with_reducible refine (awake11 W hE.out).mono ?_); rintro r w1 ⟨rfl, k1⟩)
    go_ret
    exact ⟨rfl, h0.out.keep k1⟩
  by_cases g0 : n = 0
  · subst g0
    go_enter Tryz.func7, Tryz.ntmps7
    go_wp2_with (go_at_call 11; (with_reducible refine (awake11 W hE.out).mono ?_); rintro r w1 ⟨rfl, k1⟩)
    go_ret
    exact ⟨rfl, h0.out.keep k1⟩
  have g0' : ((n : Int) == 0) = false := by rw [beq_eq_false_iff_ne]; omega
  by_cases g5 : 200 < n
  · have g5' : (200 : Int) < n := by omega
    go_enter Tryz.func7, Tryz.ntmps7
    go_wp2_with (go_at_call 11; (with_reducible refine (awake11 W hE.out).mono ?_); rintro r w1 ⟨rfl, k1⟩)
    go_ret
    exact ⟨rfl, h0.out.keep k1⟩
  have g5' : ¬ (200 : Int) < n := by omega
  by_cases g6 : 300 < N
  · have g6' : (300 : Int) < N := by omega
    go_enter Tryz.func7, Tryz.ntmps7
    go_wp2_with (go_at_call 11; (with_reducible refine (awake11 W hE.out).mono ?_); rintro r w1 ⟨rfl, k1⟩)
    go_ret
    exact ⟨rfl, h0.out.keep k1⟩
  have g6' : ¬ (300 : Int) < N := by omega
  by_cases g7 : which < 0
  · go_enter Tryz.func7, Tryz.ntmps7
    go_wp2_with (go_at_call 11; (with_reducible refine (awake11 W hE.out).mono ?_); rintro r w1 ⟨rfl, k1⟩)
    go_ret
    exact ⟨rfl, h0.out.keep k1⟩
  obtain ⟨m, rfl⟩ : ∃ m : Nat, most = m := ⟨most.toNat, by omega⟩
  obtain ⟨kd, rfl⟩ : ∃ m : Nat, kind = m := ⟨kind.toNat, by omega⟩
  obtain ⟨wh, rfl⟩ : ∃ m : Nat, which = m := ⟨which.toNat, by omega⟩
  have hm0 : Hide (0 < m) := ⟨by omega⟩
  have hn0 : Hide (0 < n) := ⟨by omega⟩
  have hkd : Hide (kd < 7) := ⟨by omega⟩
  have hm : Hide (m ≤ 1000) := ⟨by omega⟩
  have hNl : Hide (lane.length ≤ 300) := ⟨by rw [hN.out]; omega⟩
  have hnl : Hide (n ≤ 200) := ⟨by omega⟩
  have htk : Hide (tOk [lane]) := ⟨by intro l hl x hx; rw [List.mem_singleton] at hl; subst hl; exact hll.out x hx⟩
  go_enter Tryz.func7, Tryz.ntmps7
  go_wp2_with (first
    | (go_at_call 11; (with_reducible refine (awake11 W hE.out).mono ?_); rintro r w1 ⟨rfl, k1⟩; have k1 := hide k1)
    | (go_at_call 13; (with_reducible refine (Draw_One _ lane (by have := hNl.out; omega) (fun wx hx => hl.out.keep hx.toKeep) (h0.out.keep k1.out)).mono ?_); rintro r w2 ⟨tb, rfl, h2⟩; have h2 := hide h2)
    | (go_at_call 12; (with_reducible refine (In_NewK (tb := tb) kd hkd.out m (by have := hm.out; omega) h2.out).mono ?_); rintro r w3 ⟨b, rfl, h3⟩; have h3 := hide h3))
  have hI0 := hide (IGood.new kd m 0 hkd.out (by have := hm.out; omega) [lane] htk.out)
  clear g1 g2 g3 g4 g0 g0' g5 g6 g5' g6' g7
  go_loopg [13] (n) (fun c z wr => ∃ i x t, Hide (n - i = c) ∧ i ≤ n ∧ z = .int .i64 (i : Nat) ∧ Hide (IGood m i x t) ∧ Holds W wr (IsIn b tb x :: IsTape tb t :: []))
  case atStart => exact ⟨0, ⟨Ca.new kd m 0, 0, 0⟩, [lane], ⟨rfl⟩, Nat.zero_le _, rfl, hI0, h3.out⟩
  case round =>
    clear h3 hI0
    obtain ⟨i, x, t, hci, hin, rfl, hI, hh⟩ := hrel
    have h3 := hide hh
    clear hh
    by_cases hlt : i < n
    · have hlt' : (i : Int) < n := by omega
      have hnl2 := hnl.out
      have hi2 := hide (show i < 20000 by omega)
      have e1 : IntKind.i64.wrap ((i : Int) + 1) = ((i + 1 : Nat) : Int) := by rw [IntWalk.i64_in _ (by omega)]; omega
      obtain ⟨key, hx⟩ : ∃ x, keys[i]? = some x := ⟨_, List.getElem?_eq_getElem (by rw [hn.out]; exact hlt)⟩
      obtain ⟨bk, ok, hak, cW⟩ := RowR.strCell hk.out hx
      subst hak
      have cx := h3.out.toKeep.cell cW
      clear hx cW hnl2
      go_wp2_with (go_at_call 15; (with_reducible refine (In_AskAny hI.out hi2.out h3.out).mono ?_); rintro r w4 ⟨rfl, h4⟩; have h4 := hide h4)
      go_roundg (n - (i + 1))
      case measure => rw [← hci.out]; omega
      case rel => exact ⟨i + 1, _, _, ⟨rfl⟩, by omega, rfl, ⟨hI.out.req key⟩, h4.out⟩
    · obtain rfl : i = n := by omega
      have hlt' : ¬ (i : Int) < i := by omega
      obtain ⟨j, hj⟩ : ∃ j, wh % i = j := ⟨_, rfl⟩
      have hjl : j < i := by rw [← hj]; exact Nat.mod_lt _ hn0.out
      have er : Int.tmod (wh : Int) (i : Int) = (j : Int) := by rw [← hj]; exact Int.ofNat_tmod wh i
      have hji : (j : Int) < i := by omega
      have hi200 := hnl.out
      have hi2 := hide (show i < 20000 by omega)
      have hm2 := hm.out
      obtain ⟨key, hx⟩ : ∃ x, keys[j]? = some x := ⟨_, List.getElem?_eq_getElem (by rw [hn.out]; exact hjl)⟩
      obtain ⟨bk, ok, hak, cW⟩ := RowR.strCell hk.out hx
      subst hak
      have cx := h3.out.toKeep.cell cW
      replace cW := hide cW
      replace hx := hide hx
      obtain ⟨d, hd⟩ : ∃ d, decide (key ∈ x.c.res) = d := ⟨_, rfl⟩
      obtain ⟨R, hR⟩ : ∃ R, x.c.res.length = R := ⟨_, rfl⟩
      have hRm : R ≤ m := by rw [← hR, ← hI.out.most]; exact hI.out.inv.le
      have hRl := hide (show R < 1000000 by omega)
      -- behind the removals
      obtain ⟨r1, r2, r3, _, _⟩ := Ca.remove_res hI.out.inv key
      have hI1 := hI.out.remove key
      have hI2 := hI1.remove key
      obtain ⟨s1, s2, _, _, _⟩ := Ca.remove_res hI1.inv key
      obtain ⟨x1, hx1⟩ : ∃ x1 : In, ⟨x.c.remove key, x.n, x.h⟩ = x1 := ⟨_, rfl⟩
      rw [show x.c.remove key = x1.c by rw [← hx1]] at r1 r2 r3
      obtain ⟨x2, hx2⟩ : ∃ x2 : In, ⟨x1.c.remove key, x1.n, x1.h⟩ = x2 := ⟨_, rfl⟩
      rw [hx1] at hI1 hI2 s1 s2
      rw [hx2] at hI2
      rw [show x1.c.remove key = x2.c by rw [← hx2]] at s1 s2
      have hk1 : key ∉ x1.c.res := fun hc => ((r2 key).1 hc).2 rfl
      have hk2 : key ∉ x2.c.res := fun hc => ((s2 key).1 hc).2 rfl
      have hl2 : x2.c.res.length = x1.c.res.length := same_len hI2.inv.nodup hI1.inv.nodup fun c => by
        rw [s2]
        exact ⟨fun h => h.1, fun h => ⟨h, fun e => hk1 (e ▸ h)⟩⟩
      have hl1 : x1.c.res.length = if d = true then R - 1 else R := by
        cases d with
        | true =>
          have := len_sub hI.out.inv.nodup hI1.inv.nodup (of_decide_eq_true hd) r2
          rw [if_pos rfl]; omega
        | false =>
          rw [if_neg (by decide), ← hR]
          refine same_len hI1.inv.nodup hI.out.inv.nodup fun c => ?_
          rw [r2]
          exact ⟨fun h => h.1, fun h => ⟨h, fun e => (of_decide_eq_false hd) (e ▸ h)⟩⟩
      -- the request
      obtain ⟨⟨y, u, ⟨hit, v, out⟩⟩, hr⟩ : ∃ r, x2.req t key = r := ⟨_, rfl⟩
      have hA := (Ca.asked hI2.inv t key).2
      obtain ⟨f1, f2, f3, _⟩ := hA.fields (by rw [hI2.most]; have := hm0.out; omega)
      have hst : (x2.c.req t key).2.2 = ⟨hit, v, out⟩ := congrArg (fun q => q.2.2) hr
      have hyc : (x2.c.req t key).1 = y.c := congrArg (fun q => q.1.c) hr
      have hyi : y.c.Inv := by have := hI2.req key; rw [hr] at this; exact this.inv
      simp only [hst, hyc] at f1 f2 f3
      rw [decide_eq_false hk2] at f1 f2
      subst f1
      rw [hI2.most, hl2, hl1] at f2
      have hd2 : ∃ q : Bool, ((R : Int) == (m : Int)) = q ∧ out = (!d && q) := by
        refine ⟨decide (R = m), ?_, ?_⟩
        · by_cases e : R = m
          · rw [e]; simp
          · rw [decide_eq_false e, beq_eq_false_iff_ne]; omega
        · have h0 := hm0.out
          cases d with
          | true =>
            rw [if_pos rfl] at f2
            have hR0 : 0 < R := by rw [← hR]; exact List.length_pos_iff.2 (fun e => by have := of_decide_eq_true hd; rw [e] at this; cases this)
            rw [f2, decide_eq_false (show ¬ R - 1 = m by omega)]
            rfl
          | false => rw [f2]; rfl
      obtain ⟨q, hq, ho⟩ := hd2
      subst ho
      have gl : Hide (x1.c.ghosts.length ≤ 10000000) := ⟨by have := hI1.fit.ghosts; omega⟩
      obtain ⟨G, hG⟩ : ∃ G, x1.c.ghosts.length = G := ⟨_, rfl⟩
      rw [hG] at gl
      have cR1 := hide (In_RemoveR hI.out.inv key d hd h3.out)
      rw [hx1] at cR1
      have cR2 := hide (fun (w : World) (L : List SProp) (h : Holds W w (IsIn b tb x1 :: L)) => by have c := In_RemoveR hI1.inv key false (decide_eq_false hk1) h; rw [hx2] at c; exact c)
      have cH0 := hide (In_HasR hI.out.inv key d hd h3.out)
      have cL0 := hide (fun (w : World) (h : Holds W w (IsIn b tb x :: IsTape tb t :: [])) => In_LenR R hR hRl.out h)
      have cR1' := hide (fun (w : World) (h : Holds W w (IsIn b tb x :: IsTape tb t :: [])) => by have c := In_RemoveR hI.out.inv key d hd h; rw [hx1] at c; exact c)
      have cH1 := hide (fun (w : World) (L : List SProp) (h : Holds W w (IsIn b tb x1 :: L)) => In_HasR hI1.inv key false (decide_eq_false hk1) h)
      have cG := hide (fun (w : World) (L : List SProp) (h : Holds W w (IsIn b tb x1 :: L)) => by have c := In_GhostsI hI1 hi2.out h; rw [hG] at c; exact c)
      have cF := hide (fun (w : World) (v : Value) (h : RowAt w v (strs x1.c.ghosts)) => Ref3_Has h (by rw [hG]; exact gl.out) key false (decide_eq_false r3))
      have cA := hide (fun (w : World) (L : List SProp) (h : Holds W w (IsIn b tb x2 :: IsTape tb t :: L)) => In_Ask hI2 hi2.out hr h)
      have cHy := hide (fun (w : World) (L : List SProp) (h : Holds W w (IsIn b tb y :: L)) => In_HasR hyi key true (decide_eq_true f3) h)
      clear r1 r2 r3 hI1 hI2 s1 s2 hk1 hk2 hl1 hl2 hA hst hyc hyi f2 f3 hi200 hm2 hRm hr hx1 hx2 hG hd hR
      go_upto_region 14 with (first
        | (go_at_call 18; (with_reducible refine cH0.out.mono ?_); rintro r w4 ⟨rfl, k4⟩; have h4 := hide (h3.out.keep k4); clear k4)
        | (go_at_call 19; (with_reducible refine (cL0.out _ h4.out).mono ?_); rintro r w5 ⟨rfl, k5⟩; have h5 := hide (h4.out.keep k5); clear k5))
      have hdd : (d != d) = false := bne_self_eq_false d
      go_upto_region 17 with (first
        | (go_at_call 23; (with_reducible refine (cR1'.out _ h5.out).mono ?_); rintro r w6 ⟨rfl, h6⟩; have h6 := hide h6)
        | (go_at_call 18; (with_reducible refine (cH1.out _ _ h6.out).mono ?_); rintro r w7 ⟨rfl, k7⟩; have h7 := hide (h6.out.keep k7); clear k7)
        | (go_at_call 21; (with_reducible refine (cG.out _ _ h7.out).mono ?_); rintro r w8 ⟨ao, cap, rfl, h8⟩; have h8 := hide h8)
        | (go_at_call 17; (with_reducible refine (cF.out _ _ (Holds.strsAt h8.out)).mono ?_); rintro r w9 ⟨rfl, rfl⟩)
        | (go_at_call 23; (with_reducible refine (cR2.out _ _ (Holds.p1 h8.out)).mono ?_); rintro r w10 ⟨rfl, h10⟩; have h10 := hide (Holds.p1 (Holds.p2 h10)))
        | (go_at_call 15; (with_reducible refine (cA.out _ _ h10.out).mono ?_); rintro r w11 ⟨rfl, h11⟩))
      obtain ⟨rs, hrs⟩ : ∃ q, w11.heap.size = q := ⟨_, rfl⟩
      have h12 := h11.alloc (o := .cells #[.bool false, .string v, .bool (!d && q)] 34)
      rw [hrs] at h12
      simp only [hrs]
      generalize w11.alloc (.cells #[.bool false, .string v, .bool (!d && q)] 34) = W12 at h12 ⊢
      obtain ⟨t0, t1, t2⟩ := cells3 h12
      replace h12 := hide h12
      clear hrs h11 h10 h8 h7 h6 h5 h4 cx
      cases d
      all_goals
        cases q
        all_goals
          go_wp2_with (go_at_call 18; (with_reducible refine (cHy.out _ _ (Holds.p1 h12.out)).mono ?_); rintro r w13 ⟨rfl, k13⟩; have h13 := hide (h12.out.keep k13); have t2' := k13.cell t2; clear k13)
          go_ret
          exact ⟨rfl, h13.out.nil⟩
end Go.Proofs.YtbbdimlpofjlfaaGreatDoor
