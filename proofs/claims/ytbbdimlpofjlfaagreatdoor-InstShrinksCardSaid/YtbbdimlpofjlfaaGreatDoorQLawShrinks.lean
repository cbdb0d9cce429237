/- The law InstShrinks: its walk. -/
import Derived.Test.YtbbdimlpofjlfaaGreatDoorQRefs10
import Derived.Test.YtbbdimlpofjlfaaGreatDoorQQuiet
import Derived.Deep.DeepCutAuto
namespace Go.Proofs.YtbbdimlpofjlfaaGreatDoor
open Go Go.RowKit

set_option maxRecDepth 100000
set_option maxHeartbeats 4000000
theorem In_ResizeR {g w : World} {F : List SProp} {b tb m i less O : Nat} {x : In} {t : Tape} {c : Ca} {out : List ByteArray} (hI : IGood m i x t) (hi : i < 20000) (hm : less ≤ 16777216) (hr : x.c.resize less = (c, out)) (hO : out.length = O) (h : Holds g w (IsIn b tb x :: F)) :
    Calls Tryz.prog 26 #[.pointer (some ⟨b, 0, none⟩), .int .i64 (less : Nat)] w fun r w' => ∃ ao cap, r = .returned (.tuple #[.slice ao O cap, .nilIface]) ∧ Holds g w' (OwnStrs (.slice ao O cap) out :: IsIn b tb ⟨c, x.n, x.h⟩ :: F) := by
  have q := In_Resize h less hm (4 * i) hI.fit (by omega) hI.inv
  rw [hr] at q
  refine q.mono ?_
  rintro r w' ⟨v, rfl, h1⟩
  obtain ⟨ao, cap, hv⟩ := (Holds.strsAt h1).shape
  rw [strs_length, hO] at hv
  subst hv
  exact ⟨ao, cap, rfl, h1⟩
/-- A request, of whatever key. -/
theorem In_AskSome {g w : World} {F : List SProp} {b tb m i : Nat} {x : In} {t : Tape} {k : ByteArray} (hI : IGood m i x t) (hi : i < 20000) (h : Holds g w (IsIn b tb x :: IsTape tb t :: F)) :
    Calls Tryz.prog 15 #[.pointer (some ⟨b, 0, none⟩), .string k] w fun r w' => ∃ st z u, r = .returned (stepV st) ∧ IGood m (i + 1) z u ∧ Holds g w' (IsIn b tb z :: IsTape tb u :: F) :=
  (In_AskAny hI hi h).mono fun _ _ ⟨hr, h1⟩ => ⟨_, _, _, hr, hI.req k, h1⟩
theorem In_MostR {g w : World} {F : List SProp} {b tb : Nat} {x : In} (n : Nat) (hn : x.c.most = n) (h : Holds g w (IsIn b tb x :: F)) :
    Calls Tryz.prog 27 #[.pointer (some ⟨b, 0, none⟩)] w fun r w' => r = .returned (.int .i64 n) ∧ Keep w w' := In_Most h n hn
theorem walk_InstShrinks (kind most less : Int) (vl vk : Value) (lane : List Nat) (keys : List ByteArray) (W : World) (hE : Env W) (hl : RowR W vl (nums64 lane)) (hll : ∀ x ∈ lane, x < 18446744073709551616) (hk : RowR W vk (strs keys)) :
    Calls Tryz.prog 9 #[.int .i64 kind, .int .i64 most, .int .i64 less, vl, vk] W fun e w' => e = .returned (.bool true) ∧ Holds W w' [] := by
  have hE := hide hE
  obtain ⟨al, cl, hvl⟩ := hl.shape
  obtain ⟨ak, ck, hvk⟩ := hk.shape
  rw [nums64_length] at hvl
  rw [strs_length] at hvk
  subst hvl
  subst hvk
  obtain ⟨N, hN⟩ : ∃ N, lane.length = N := ⟨_, rfl⟩
  obtain ⟨n, hn⟩ : ∃ n, keys.length = n := ⟨_, rfl⟩
  rw [hN] at hl ⊢
  rw [hn] at hk ⊢
  replace hN := hide hN
  replace hn := hide hn
  replace hl := hide hl
  replace hk := hide hk
  replace hll := hide hll
  have h0 := hide (Holds.start W)
  by_cases g1 : kind < 0
  · go_enter Tryz.func9, Tryz.ntmps9
    go_wp2_with (go_at_call 11; (with_reducible refine (awake11 W hE.out).mono ?_); rintro r w1 ⟨rfl, k1⟩)
    go_ret
    exact ⟨rfl, h0.out.keep k1⟩
  by_cases g2 : 6 < kind
  · go_enter Tryz.func9, Tryz.ntmps9
    go_wp2_with (go_at_call 11; (with_reducible refine (awake11 W hE.out).mono ?_); rintro r w1 ⟨rfl, k1⟩)
    go_ret
    exact ⟨rfl, h0.out.keep k1⟩
  by_cases g3 : most < 0
  · go_enter Tryz.func9, Tryz.ntmps9
    go_wp2_with (go_at_call 11; (with_reducible refine (awake11 W hE.out).mono ?_); rintro r w1 ⟨rfl, k1⟩)
    go_ret
    exact ⟨rfl, h0.out.keep k1⟩
  by_cases g4 : 1000 < most
  · go_enter Tryz.func9, Tryz.ntmps9
    go_wp2_with (go_at_call 11; (with_reducible refine (awake11 W hE.out).mono ?_); rintro r w1 ⟨rfl, k1⟩)
    go_ret
    exact ⟨rfl, h0.out.keep k1⟩
  by_cases g7 : less < 0
  · go_enter Tryz.func9, Tryz.ntmps9
    go_wp2_with (go_at_call 11; (with_reducible refine (awake11 W hE.out).mono ?_); rintro r w1 ⟨rfl, k1⟩)
    go_ret
    exact ⟨rfl, h0.out.keep k1⟩
  by_cases g8 : 1000 < less
  · go_enter Tryz.func9, Tryz.ntmps9
    go_wp2_with (go_at_call 11; (with_reducible refine (awake11 W hE.out).mono ?_); rintro r w1 ⟨rfl, k1⟩)
    go_ret
    exact ⟨rfl, h0.out.keep k1⟩
  by_cases g5 : 200 < n
  · have g5' : (200 : Int) < n := by omega
    go_enter Tryz.func9, Tryz.ntmps9
    go_wp2_with (go_at_call 11; (with_reducible refine (awake11 W hE.out).mono ?_); rintro r w1 ⟨rfl, k1⟩)
    go_ret
    exact ⟨rfl, h0.out.keep k1⟩
  have g5' : ¬ (200 : Int) < n := by omega
  by_cases g6 : 300 < N
  · have g6' : (300 : Int) < N := by omega
    go_enter Tryz.func9, Tryz.ntmps9
    go_wp2_with (go_at_call 11; (with_reducible refine (awake11 W hE.out).mono ?_); rintro r w1 ⟨rfl, k1⟩)
    go_ret
    exact ⟨rfl, h0.out.keep k1⟩
  have g6' : ¬ (300 : Int) < N := by omega
  obtain ⟨m, rfl⟩ : ∃ m : Nat, most = m := ⟨most.toNat, by omega⟩
  obtain ⟨kd, rfl⟩ : ∃ m : Nat, kind = m := ⟨kind.toNat, by omega⟩
  obtain ⟨ls, rfl⟩ : ∃ m : Nat, less = m := ⟨less.toNat, by omega⟩
  have hls : Hide (ls ≤ 1000) := ⟨by omega⟩
  have hkd : Hide (kd < 7) := ⟨by omega⟩
  have hm : Hide (m ≤ 1000) := ⟨by omega⟩
  have hNl : Hide (lane.length ≤ 300) := ⟨by rw [hN.out]; omega⟩
  have hnl : Hide (n ≤ 200) := ⟨by omega⟩
  have htk : Hide (tOk [lane]) := ⟨by intro l hl x hx; rw [List.mem_singleton] at hl; subst hl; exact hll.out x hx⟩
  go_enter Tryz.func9, Tryz.ntmps9
  go_wp2_with (first
    | (go_at_call 11; (with_reducible refine (awake11 W hE.out).mono ?_); rintro r w1 ⟨rfl, k1⟩; have k1 := hide k1)
    | (go_at_call 13; (with_reducible refine (Draw_One _ lane (by have := hNl.out; omega) (fun wx hx => hl.out.keep hx.toKeep) (h0.out.keep k1.out)).mono ?_); rintro r w2 ⟨tb, rfl, h2⟩; have h2 := hide h2)
    | (go_at_call 12; (with_reducible refine (In_NewK (tb := tb) kd hkd.out m (by have := hm.out; omega) h2.out).mono ?_); rintro r w3 ⟨b, rfl, h3⟩; have h3 := hide h3))
  have hI0 := hide (IGood.new kd m 0 hkd.out (by have := hm.out; omega) [lane] htk.out)
  clear g1 g2 g3 g4 g5 g6 g5' g6' g7 g8
  go_loopg [13] (n) (fun c z wr => ∃ i x t, Hide (n - i = c) ∧ i ≤ n ∧ z = .int .i64 (i : Nat) ∧ Hide (IGood m i x t) ∧ Holds W wr (IsIn b tb x :: IsTape tb t :: []))
  case atStart => exact ⟨0, ⟨Ca.new kd m 0, 0, 0⟩, [lane], ⟨rfl⟩, Nat.zero_le _, rfl, hI0, h3.out⟩
  case round =>
    clear h3 hI0
    obtain ⟨i, x, t, hci, hin, rfl, hI, hh⟩ := hrel
    have h3 := hide hh
    clear hh
    by_cases hlt : i < n
    · have hlt' : (i : Int) < n := by omega
      have hnl2 := hnl.out
      have hi2 := hide (show i < 20000 by omega)
      have e1 : IntKind.i64.wrap ((i : Int) + 1) = ((i + 1 : Nat) : Int) := by rw [IntWalk.i64_in _ (by omega)]; omega
      obtain ⟨key, hx⟩ : ∃ x, keys[i]? = some x := ⟨_, List.getElem?_eq_getElem (by rw [hn.out]; exact hlt)⟩
      obtain ⟨bk, ok, hak, cW⟩ := RowR.strCell hk.out hx
      subst hak
      have cx := h3.out.toKeep.cell cW
      clear hx cW hnl2
      go_wp2_with (go_at_call 15; (with_reducible refine (In_AskAny hI.out hi2.out h3.out).mono ?_); rintro r w4 ⟨rfl, h4⟩; have h4 := hide h4)
      go_roundg (n - (i + 1))
      case measure => rw [← hci.out]; omega
      case rel => exact ⟨i + 1, _, _, ⟨rfl⟩, by omega, rfl, ⟨hI.out.req key⟩, h4.out⟩
    · obtain rfl : i = n := by omega
      have hlt' : ¬ (i : Int) < i := by omega
      have hi200 := hnl.out
      have hi2 := hide (show i < 20000 by omega)
      have hm2 := hm.out
      have hls2 := hls.out
      obtain ⟨R, hR⟩ : ∃ R, x.c.res.length = R := ⟨_, rfl⟩
      have hRm : R ≤ m := by rw [← hR, ← hI.out.most]; exact hI.out.inv.le
      obtain ⟨⟨c2, out⟩, hr⟩ : ∃ q, x.c.resize ls = q := ⟨_, rfl⟩
      obtain ⟨r1, r2, _, r4, r5⟩ := Ca.resize_res hI.out.inv ls
      have hI2 := hI.out.resize (m' := ls) (by omega)
      rw [hr] at r1 r2 r4 r5 hI2
      dsimp only at r1 r2 r4 r5 hI2
      obtain ⟨O, hO⟩ : ∃ O, out.length = O := ⟨_, rfl⟩
      have hgl := r4.len hI.out.inv.nodup r1.nodup
      obtain ⟨L, hL⟩ : ∃ L, c2.res.length = L := ⟨_, rfl⟩
      rw [hR, hO] at r5
      rw [hR, hL, hO] at hgl
      have e1 : IntKind.i64.wrap ((R : Int) - (ls : Int)) = (R : Int) - (ls : Int) := IntWalk.i64_in _ (by omega)
      have e2 : max 0 ((R : Int) - (ls : Int)) = (O : Int) := by omega
      have e3 : IntKind.i64.wrap ((R : Int) - (O : Int)) = (L : Int) := by rw [IntWalk.i64_in _ (by omega)]; omega
      have hRl := hide (show R ≤ 1000 by omega)
      have hOl := hide (show out.length ≤ 10000000 by omega)
      have cK := hide (fun (w : World) (L : List SProp) (h : Holds W w (IsIn b tb x :: L)) => by have c := In_KeysI hI.out hi2.out h; rw [hR] at c; exact c)
      have cR := hide (fun (w : World) (L : List SProp) (h : Holds W w (IsIn b tb x :: L)) => In_ResizeR hI.out hi2.out (less := ls) (by omega) hr hO h)
      obtain ⟨y, hy⟩ : ∃ y : In, ⟨c2, x.n, x.h⟩ = y := ⟨_, rfl⟩
      rw [hy] at cR hI2
      rw [show c2 = y.c by rw [← hy]] at r1 r2 r4 hL
      have cL := hide (fun (w : World) (M : List SProp) (h : Holds W w (IsIn b tb y :: M)) => In_LenR L hL (by omega) h)
      have cM := hide (fun (w : World) (M : List SProp) (h : Holds W w (IsIn b tb y :: M)) => In_MostR ls r2 h)
      replace hI2 := hide hI2
      replace r1 := hide r1
      replace r4 := hide r4
      have hkl : Hide (x.c.keys.length = R ∧ ∀ q ∈ x.c.keys, q ∈ x.c.res) := ⟨by rw [(Ca.keys_res x.c).2, hR], fun q hq => ((Ca.keys_res x.c).1 q).1 hq⟩
      clear r2 r5 hgl hi200 hm2 hls2 hRm hR hL hr hO hy
      go_wp2_with (first
        | (go_at_call 14; (with_reducible refine (cK.out _ _ h3.out).mono ?_); rintro r w4 ⟨ao, cap, rfl, h4⟩; have h4 := hide (Holds.p1 h4))
        | (go_at_call 26; (with_reducible refine (cR.out _ _ h4.out).mono ?_); rintro r w5 ⟨ao5, cap5, rfl, h5⟩; have h5 := hide (Holds.p1 h5))
        | (go_at_call 19; (with_reducible refine (cL.out _ _ h5.out).mono ?_); rintro r w6 ⟨rfl, k6⟩; have h6 := hide (h5.out.keep k6); clear k6)
        | (go_at_call 27; (with_reducible refine (cM.out _ _ h6.out).mono ?_); rintro r w7 ⟨rfl, k7⟩; have h7 := hide (h6.out.keep k7); clear k7))
      clear e1 e2 e3
      go_loopg [17] (R) (fun c z wr => ∃ j, Hide (R - j = c) ∧ j ≤ R ∧ z = .int .i64 (j : Nat) ∧ Holds W wr (IsIn b tb y :: OwnStrs (.slice ao5 O cap5) out :: OwnStrs (.slice ao R cap) x.c.keys :: IsTape tb t :: []))
      case atStart => exact ⟨0, ⟨rfl⟩, Nat.zero_le _, rfl, h7.out⟩
      case round =>
        clear h3 h4 h5 h6 h7 cK cR cL cM
        obtain ⟨j, hcj, hjR, rfl, hj⟩ := hrel
        by_cases hjl : j < R
        · have hjl' : (j : Int) < R := by omega
          have hRb := hRl.out
          have e3 : IntKind.i64.wrap ((j : Int) + 1) = ((j + 1 : Nat) : Int) := by rw [IntWalk.i64_in _ (by omega)]; omega
          obtain ⟨q, hq⟩ : ∃ x_1, x.c.keys[j]? = some x_1 := ⟨_, List.getElem?_eq_getElem (by rw [hkl.out.1]; exact hjl)⟩
          obtain ⟨bw, ow, hao, cq⟩ := RowAt.strCell (Holds.strsAt (Holds.p2 hj)) hq
          subst hao
          have hqx := hkl.out.2 q (List.mem_of_getElem? hq)
          replace cq : ∀ u : KeptOf wr, u.world.cell? ⟨bw, ow + j, none⟩ = some (.string q) := fun u => u.keep.cell cq
          obtain ⟨d, hd⟩ : ∃ d, decide (q ∈ y.c.res) = d := ⟨_, rfl⟩
          have hd2 : decide (q ∈ out) = !d := by
            rw [← hd]
            by_cases e : q ∈ y.c.res
            · rw [decide_eq_true e]
              exact decide_eq_false fun h => r4.out.dis q h e
            · rw [decide_eq_false e]
              exact decide_eq_true (((r4.out.all q).1 hqx).elim (fun h => absurd h e) id)
          have cH := hide (fun (u : KeptOf wr) => KeptOf.calls (In_HasR r1.out q d hd (KeptOf.holds u hj)))
          have cO := hide (fun (u : KeptOf wr) => KeptOf.calls ((Ref3_Has (Holds.strsAt (Holds.p1 (KeptOf.holds u hj))) hOl.out q (!d) hd2).mono fun r w' ⟨h1, h2⟩ => (⟨h1, by subst h2; exact Keep.refl _⟩ : _ ∧ Keep u.world w')))
          replace hj := hide hj
          clear hq hqx hd hd2 hRb
          cases d
          all_goals
            go_wp2
            (refine wp_region_kept (by kernel_rfl) (by kernel_rfl) ?_; (repeat (go_big_quiet_step ((first | (go_at_call 18; with_reducible exact cH.out _) | (go_at_call 17; with_reducible exact cO.out _))))); refine wpQuiet_nil ?_; intro _ hw'; obtain ⟨uq, hw''⟩ := hw'; subst hw'')
            clear cq
            go_wp2
            go_roundg (R - (j + 1))
            case measure => rw [← hcj.out]; omega
            case rel => exact ⟨j + 1, ⟨rfl⟩, by omega, rfl, uq.holds hj.out⟩
        · obtain rfl : j = R := by omega
          have hjl' : ¬ (j : Int) < j := by omega
          replace hj := hide hj
          have hI3 : Hide (IGood ls (i + 0) y t) := hI2
          go_wp2
          go_loopg [18] (ls) (fun c z wr => ∃ j y' t', Hide (ls - j = c) ∧ j ≤ 40 ∧ j ≤ ls ∧ z = .int .i64 (j : Nat) ∧ Hide (IGood ls (i + j) y' t') ∧ Holds W wr (IsIn b tb y' :: IsTape tb t' :: []))
          case atStart => exact ⟨0, y, t, ⟨rfl⟩, Nat.zero_le _, Nat.zero_le _, rfl, hI3, Holds.drop (Holds.p2 (Holds.drop (Holds.p2 (Holds.p1 (Holds.p3 hj.out)))))⟩
          case round =>
            clear hj hI3 hjl'
            obtain ⟨c, y', t', hcc, hc40, hcl, rfl, hIc, hh⟩ := hrel
            replace hh := hide hh
            by_cases hq1 : c < ls
            · have hq1' : (c : Int) < ls := by omega
              by_cases hq2 : c < 40
              · have hq2' : (c : Int) < 40 := by omega
                have e3 : IntKind.i64.wrap ((c : Int) + 1) = ((c + 1 : Nat) : Int) := by rw [IntWalk.i64_in _ (by omega)]; omega
                obtain ⟨st, hst⟩ : ∃ st, strOfNums [(c : Int)] = st := ⟨_, rfl⟩
                have hs1 : st.size = 1 := by rw [← hst, strOfNums_size]; rfl
                have hcv : (convert 50 9 (.slice (some ⟨wr.heap.size, 0, none⟩) 1 1)).run Tryz.prog (wr.alloc (.cells #[.int .u8 (c : Int)] 5)) = .ok (.string st) (wr.alloc (.cells #[.int .u8 (c : Int)] 5)) := by
                  rw [← hst]
                  exact RowAt.convert (xs := [(c : Int)]) (Holds.rowAt (Holds.one (hh.out.alloc (o := .cells #[.int .u8 (c : Int)] 5)))) Tryz.underlying50 Tryz.underlying5 Tryz.underlying9
                have hs2 : ¬ 9223372036854775807 < 4 + st.size := by omega
                replace hst := hide hst
                replace hs1 := hide hs1
                have hi3 := hide (show i + c < 20000 by have := hnl.out; omega)
                have hls3 := hls.out
                go_upto_region 25 with (first
                  | (go_at_call 15; (with_reducible refine (In_AskSome hIc.out hi3.out (hh.out.alloc'.drew)).mono ?_); rintro r w8 ⟨s8, z, u, rfl, hIz, h8⟩; have h8 := hide h8)
                  | (go_at_call 15; (with_reducible refine (In_AskSome hIc.out hi3.out (hh.out.alloc')).mono ?_); rintro r w8 ⟨s8, z, u, rfl, hIz, h8⟩; have h8 := hide h8))
                obtain ⟨Lz, hLz⟩ : ∃ q, z.c.res.length = q := ⟨_, rfl⟩
                have hle := hIz.inv.le
                rw [hIz.most, hLz] at hle
                have hlI : ¬ (ls : Int) < (Lz : Int) := by omega
                have cL := hide (In_LenR Lz hLz (by omega) h8.out)
                replace hIz := hide hIz
                clear hle hLz hcv hs2 hls3
                go_wp2_with (go_at_call 19; (with_reducible refine (cL.out).mono ?_); rintro r w9 ⟨rfl, k9⟩; have h9 := hide (h8.out.keep k9); clear k9)
                go_roundg (ls - (c + 1))
                case measure => rw [← hcc.out]; omega
                case rel => exact ⟨c + 1, z, u, ⟨rfl⟩, by omega, by omega, rfl, ⟨hIz.out⟩, h9.out⟩
              · have hq2' : ¬ (c : Int) < 40 := by omega
                go_wp2
                go_ret
                exact ⟨rfl, hh.out.nil⟩
            · have hq1' : ¬ (c : Int) < ls := by omega
              go_wp2
              go_ret
              exact ⟨rfl, hh.out.nil⟩
end Go.Proofs.YtbbdimlpofjlfaaGreatDoor
