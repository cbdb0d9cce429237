/- The law LearnBounds: its walk. -/
import Derived.Test.YteledfiechbhgaaGreatDoorQLawTools
import Derived.Test.YteledfiechbhgaaGreatDoorQTwRates
import Derived.Test.YteledfiechbhgaaGreatDoorQRefs10
import Derived.Deep.DeepCutAuto
import Derived.Deep.CutBlock
namespace Go.Proofs.YteledfiechbhgaaGreatDoor
open Go Go.RowKit

set_option maxRecDepth 100000
set_option maxHeartbeats 4000000
theorem walk_LearnBounds (kind most : Int) (vl vs : Value) (lane : List Nat) (sc : List Act5) (W : World) (hE : Env W) (hl : RowR W vl (nums64 lane)) (hll : ∀ x ∈ lane, x < 18446744073709551616) (hs : ScriptAt W vs sc) :
    Calls Tryz.prog 8 #[.int .i64 kind, .int .i64 most, vl, vs] W fun e w' => e = .returned (.bool true) ∧ Holds W w' [] := by
  have hE := hide hE
  obtain ⟨al, cl, hvl⟩ := hl.shape
  obtain ⟨asl, cs, hvs⟩ := hs.shape
  rw [nums64_length] at hvl
  subst hvl
  subst hvs
  obtain ⟨N, hN⟩ : ∃ N, lane.length = N := ⟨_, rfl⟩
  obtain ⟨n, hn⟩ : ∃ n, sc.length = n := ⟨_, rfl⟩
  obtain ⟨fw, hfw⟩ : ∃ b, few sc = b := ⟨_, rfl⟩
  rw [hN] at hl ⊢
  rw [hn] at hs ⊢
  have hF := hide (fun w' (k : Keep W w') => Few_any (hs.keep k) fw hfw)
  replace hN := hide hN
  replace hn := hide hn
  replace hl := hide hl
  replace hs := hide hs
  replace hll := hide hll
  have h0 := hide (Holds.start W)
  cases fw with
  | false =>
    go_enter Tryz.func8, Tryz.ntmps8
    go_wp2_with (first
      | (go_at_call 11; (with_reducible refine (awake10 W hE.out).mono ?_); rintro r w1 ⟨rfl, k1⟩; have k1 := hide k1)
      | (go_at_call 21; (with_reducible refine (hF.out _ k1.out).mono ?_); rintro r w2 ⟨rfl, rfl⟩))
    go_ret
    exact ⟨rfl, h0.out.keep k1.out⟩
  | true =>
  have hnl : Hide (n ≤ 200) := ⟨by rw [← hn.out]; exact few_len hfw⟩
  by_cases g2 : 300 < N
  · have g2' : (300 : Int) < N := by omega
    go_enter Tryz.func8, Tryz.ntmps8
    go_wp2_with (first
      | (go_at_call 11; (with_reducible refine (awake10 W hE.out).mono ?_); rintro r w1 ⟨rfl, k1⟩; have k1 := hide k1)
      | (go_at_call 21; (with_reducible refine (hF.out _ k1.out).mono ?_); rintro r w2 ⟨rfl, rfl⟩))
    go_ret
    exact ⟨rfl, h0.out.keep k1.out⟩
  have g2' : ¬ (300 : Int) < N := by omega
  by_cases g3 : kind < 5
  · go_enter Tryz.func8, Tryz.ntmps8
    go_wp2_with (first
      | (go_at_call 11; (with_reducible refine (awake10 W hE.out).mono ?_); rintro r w1 ⟨rfl, k1⟩; have k1 := hide k1)
      | (go_at_call 21; (with_reducible refine (hF.out _ k1.out).mono ?_); rintro r w2 ⟨rfl, rfl⟩))
    go_ret
    exact ⟨rfl, h0.out.keep k1.out⟩
  by_cases g4 : 6 < kind
  · go_enter Tryz.func8, Tryz.ntmps8
    go_wp2_with (first
      | (go_at_call 11; (with_reducible refine (awake10 W hE.out).mono ?_); rintro r w1 ⟨rfl, k1⟩; have k1 := hide k1)
      | (go_at_call 21; (with_reducible refine (hF.out _ k1.out).mono ?_); rintro r w2 ⟨rfl, rfl⟩))
    go_ret
    exact ⟨rfl, h0.out.keep k1.out⟩
  by_cases g5 : most < 0
  · go_enter Tryz.func8, Tryz.ntmps8
    go_wp2_with (first
      | (go_at_call 11; (with_reducible refine (awake10 W hE.out).mono ?_); rintro r w1 ⟨rfl, k1⟩; have k1 := hide k1)
      | (go_at_call 21; (with_reducible refine (hF.out _ k1.out).mono ?_); rintro r w2 ⟨rfl, rfl⟩))
    go_ret
    exact ⟨rfl, h0.out.keep k1.out⟩
  by_cases g6 : 1000 < most
  · go_enter Tryz.func8, Tryz.ntmps8
    go_wp2_with (first
      | (go_at_call 11; (with_reducible refine (awake10 W hE.out).mono ?_); rintro r w1 ⟨rfl, k1⟩; have k1 := hide k1)
      | (go_at_call 21; (with_reducible refine (hF.out _ k1.out).mono ?_); rintro r w2 ⟨rfl, rfl⟩))
    go_ret
    exact ⟨rfl, h0.out.keep k1.out⟩
  obtain ⟨m, rfl⟩ : ∃ m : Nat, most = m := ⟨most.toNat, by omega⟩
  have hk56 : Hide (kind = 5 ∨ kind = 6) := ⟨by omega⟩
  have hm : Hide (m ≤ 1000) := ⟨by omega⟩
  have hNl : Hide (lane.length ≤ 300) := ⟨by rw [hN.out]; omega⟩
  clear hfw
  obtain ⟨least, hleast⟩ : ∃ x : Nat, x = 46116860184273879 := ⟨_, rfl⟩
  obtain ⟨slow, hslow⟩ : ∃ x : Nat, x = 4611686018427387 := ⟨_, rfl⟩
  obtain ⟨start, hstart⟩ : ∃ x : Nat, x = 2075258708292324556 := ⟨_, rfl⟩
  have cW1 := hide (fun w => RefWhole_var 1 100 46116860184273879 least (by omega) (RefWhole_100 w))
  have cW2 := hide (fun w => RefWhole_var 1 1000 4611686018427387 slow (by omega) (RefWhole_1000 w))
  have cW3 := hide (fun w => RefWhole_var 45 100 2075258708292324556 start (by omega) (RefWhole_45 w))
  replace hleast := hide hleast
  replace hslow := hide hslow
  replace hstart := hide hstart
  go_enter Tryz.func8, Tryz.ntmps8
  go_wp2_with (first
    | (go_at_call 11; (with_reducible refine (awake10 W hE.out).mono ?_); rintro r w1 ⟨rfl, k1⟩; have k1 := hide k1)
    | (go_at_call 21; (with_reducible refine (hF.out _ k1.out).mono ?_); rintro r w2 ⟨rfl, rfl⟩)
    | (go_at_call 12; (with_reducible refine (Made kind hk56.out m (by have := hm.out; omega) _ lane (by have := hNl.out; omega) (fun wx hx => hl.out.keep hx.toKeep) (h0.out.keep k1.out)).mono ?_); rintro r w3 ⟨b, tb, rfl, h3⟩; have h3 := hide h3)
    | (go_at_call 13; (with_reducible refine (cW1.out _).mono ?_); rintro r w4 ⟨rfl, k4⟩; have k4 := hide k4)
    | (go_at_call 13; (with_reducible refine (cW2.out _).mono ?_); rintro r w5 ⟨rfl, k5⟩; have k5 := hide k5)
    | (go_at_call 13; (with_reducible refine (cW3.out _).mono ?_); rintro r w6 ⟨rfl, k6⟩; have k6 := hide k6))
  have hB0 := hide (Bounds.new kind m [lane] (by intro l hl x hx; rw [List.mem_singleton] at hl; subst hl; exact hll.out x hx))
  have h4 := hide (((h3.out.keep k4.out).keep k5.out).keep k6.out)
  clear g2 g3 g4 g5 g6 g2' h3 cW1 cW2 cW3
  go_loopg [16] (n) (fun cc x wr => ∃ i s, Hide (n - i = cc) ∧ i ≤ n ∧ x = .int .i64 (i : Nat) ∧ Bounds kind m i s ∧ Holds W wr (IsLn b tb s :: IsTape tb s.tape :: []))
  case atStart => exact ⟨0, Ln.new kind m [lane] 0, ⟨rfl⟩, Nat.zero_le _, rfl, hB0.out, h4.out⟩
  case round =>
    clear h4 hB0 hF
    obtain ⟨i, s, hci, hin, rfl, hB, hh⟩ := hrel
    have h3 := hide hh
    have hsW := hide (hs.out.keep hh.toKeep)
    clear hh
    by_cases hlt : i < n
    · have hlt' : (i : Int) < n := by omega
      have hnl2 := hnl.out
      have e1 : IntKind.i64.wrap ((i : Int) + 1) = (i : Int) + 1 := IntWalk.i64_in _ (by omega)
      obtain ⟨a, hx⟩ : ∃ x, sc[i]? = some x := ⟨_, List.getElem?_eq_getElem (by rw [hn.out]; exact hlt)⟩
      obtain ⟨bk, ok, hak, x0, x1, x2⟩ := hsW.out.cells hx
      subst hak
      replace hx := hide hx
      obtain ⟨ak, key, an⟩ := a
      dsimp only at x0 x1 x2
      obtain ⟨rx, hrx⟩ : ∃ r, wr.heap.size = r := ⟨_, rfl⟩
      have H4 := h3.out.alloc (o := .cells #[.int .i64 ak, .string key, .int .i64 an] 47)
      rw [hrx] at H4
      go_upto_block 2 with fail
      try simp only [hrx]
      generalize wr.alloc (.cells #[.int .i64 ak, .string key, .int .i64 an] 47) = W4 at H4 ⊢
      clear hrx x0 x1 x2
      have y0 : W4.cell? ⟨rx, 0, none⟩ = some (.int .i64 ak) := Holds.cell H4 rfl
      have y1 : W4.cell? ⟨rx, 1, none⟩ = some (.string key) := Holds.cell H4 rfl
      have H4 := hide H4
      have hsm : Hide (s.most ≤ 16777216) := ⟨by rw [hB.most]; have := hm.out; omega⟩
      replace hB := hide hB
      go_cut [] (fun wx => ∃ s', Bounds kind m (i + 1) s' ∧ Holds W wx (IsLn b tb s' :: IsTape tb s'.tape :: []))
      case first =>
        have hcase : ak = 0 ∨ ak = 1 ∨ ak = 2 ∨ ak = 3 ∨ (ak ≠ 0 ∧ ak ≠ 1 ∧ ak ≠ 2 ∧ ak ≠ 3) := by omega
        rcases hcase with rfl | rfl | rfl | rfl | ⟨hc0, hc1, hc2, hc3⟩
        · obtain ⟨hB2, hT⟩ := hB.out.req key
          obtain ⟨⟨s2, ⟨hit, x, out⟩⟩, hs2⟩ : ∃ q, s.req key = q := ⟨_, rfl⟩
          rw [hs2] at hB2 hT
          have cR := hide (fun (w' : World) (p q : Nat) (L : List SProp) (hw : Holds W w' (IsLn p q s :: IsTape q s.tape :: L)) => by
            have c := Ln_Request hw key (4 * i) hB.out.fit (by omega) hsm.out
            rw [hs2] at c
            dsimp only [stepV] at c
            exact c)
          replace hs2 := hide hs2
          go_upto_region 18 with (first
            | (go_at_call 17; (with_reducible refine (cR.out _ _ _ _ (Holds.p2 (Holds.p2 H4.out))).mono ?_); rintro r1 w5 ⟨rfl, h5⟩; have h5 := hide h5))
          obtain ⟨ry, hry⟩ : ∃ r, w5.heap.size = r := ⟨_, rfl⟩
          have H6 := h5.out.alloc (o := .cells #[.bool hit, .string x, .bool out] 36)
          rw [hry] at H6
          try simp only [hry]
          generalize w5.alloc (.cells #[.bool hit, .string x, .bool out] 36) = W6 at H6 ⊢
          clear hry h5
          have z0 : W6.cell? ⟨ry, 0, none⟩ = some (.bool hit) := Holds.cell H6 rfl
          have z1 : W6.cell? ⟨ry, 1, none⟩ = some (.string x) := Holds.cell H6 rfl
          have z2 : W6.cell? ⟨ry, 2, none⟩ = some (.bool out) := Holds.cell H6 rfl
          have z3 : W6.cell? ⟨rx, 1, none⟩ = some (.string key) := Holds.cell (Holds.p3 H6) rfl
          have hB2 := hide hB2
          have H6 := hide H6
          have hoq := hT.once
          have hgq := hide hT.gone
          have cK : 0 < m → Hide (∀ w', Keep W6 w' → Calls Tryz.prog 25 #[.pointer (some ⟨b, 0, none⟩), .string key] w' fun r w'' => r = .returned (.bool true) ∧ Keep w' w'') := fun h0 => ⟨fun w' k => Ln_Has (Holds.p1 (H6.out.keep k)) key true (hT.has h0)⟩
          have cX : out = true → Hide (∀ w', Keep W6 w' → Calls Tryz.prog 25 #[.pointer (some ⟨b, 0, none⟩), .string x] w' fun r w'' => r = .returned (.bool false) ∧ Keep w' w'') := fun h0 => ⟨fun w' k => Ln_Has (Holds.p1 (H6.out.keep k)) x false (hgq.out h0)⟩
          clear hT y0 y1 H4 cR hs2
          by_cases hm0 : 0 < m
          · replace cK := cK hm0
            have gm : decide ((0 : Int) < (m : Int)) = true := decide_eq_true (by omega)
            cases out with
            | true =>
              replace cX := cX rfl
              have hh : hit = false := by cases hit with | true => cases hoq | false => rfl
              subst hh
              go_wp2_with (first
                | (go_at_call 25; (with_reducible refine (cK.out _ (Keep.refl _)).mono ?_); rintro r1 w7 ⟨rfl, k7⟩; have z2' := k7.cell z2; have z1' := k7.cell z1; have k7 := hide k7)
                | (go_at_call 25; (with_reducible refine (cX.out _ k7.out).mono ?_); rintro r1 w8 ⟨rfl, k8⟩; have k8 := hide k8))
              go_meet
              case rel => exact ⟨s2, hB2.out, ((H6.out.keep k7.out).keep k8.out).drop.p2.drop⟩
            | false =>
              cases hit
              all_goals
                go_wp2_with ((go_at_call 25; (with_reducible refine (cK.out _ (Keep.refl _)).mono ?_); rintro r1 w7 ⟨rfl, k7⟩; have z2' := k7.cell z2; have z1' := k7.cell z1; have k7 := hide k7))
                go_meet
                case rel => exact ⟨s2, hB2.out, (H6.out.keep k7.out).drop.p2.drop⟩
          · have gm : decide ((0 : Int) < (m : Int)) = false := decide_eq_false (by omega)
            cases out with
            | true =>
              replace cX := cX rfl
              have hh : hit = false := by cases hit with | true => cases hoq | false => rfl
              subst hh
              go_wp2_with ((go_at_call 25; (with_reducible refine (cX.out _ (Keep.refl _)).mono ?_); rintro r1 w7 ⟨rfl, k7⟩; have k7 := hide k7))
              go_meet
              case rel => exact ⟨s2, hB2.out, (H6.out.keep k7.out).drop.p2.drop⟩
            | false =>
              cases hit
              all_goals
                go_wp2
                go_meet
                case rel => exact ⟨s2, hB2.out, H6.out.drop.p2.drop⟩
        · obtain ⟨hB2, hT⟩ := hB.out.remove key
          have hB2 := hide hB2
          have hT := hide hT
          go_wp2_with (first
            | (go_at_call 22; (with_reducible refine (Ln_Remove (Holds.p1 H4.out) key _ rfl).mono ?_); rintro r1 w5 ⟨rfl, h5⟩; have y2 := Holds.cell (off := 1) (v := .string key) (Holds.p1 h5) rfl; have h5 := hide h5)
            | (go_at_call 25; (with_reducible refine (Ln_Has h5.out key false hT.out).mono ?_); rintro r2 w6 ⟨rfl, k6⟩; have k6 := hide k6))
          go_meet
          case rel => exact ⟨_, hB2.out, (h5.out.keep k6.out).p1.drop⟩
        · have hB2 := hide (hB.out.adopt key)
          have ht2 : Hide ((s.adopt key).1.tape = s.tape) := ⟨by unfold Ln.adopt; split <;> rfl⟩
          have hf := hide hB.out.fit
          go_wp2_with (first
            | (go_at_call 23; (with_reducible refine (Ln_Adopt (Holds.p1 H4.out) key (4 * i) hf.out (by omega)).mono ?_); rintro r1 w5 ⟨rfl, h5⟩; have h5 := hide h5))
          go_meet
          case rel => exact ⟨_, hB2.out, by rw [ht2.out]; exact h5.out.p1.drop⟩
        · have hB2 := hide hB.out.drop
          have ht2 : Hide (s.drop.tape = s.tape) := ⟨by unfold Ln.drop; split <;> rfl⟩
          obtain ⟨⟨x, d⟩, hx2⟩ : ∃ q, s.victim = q := ⟨_, rfl⟩
          replace hx2 := hide hx2
          go_wp2_with (first
            | (go_at_call 26; (with_reducible refine (Ln_Drop (Holds.p1 H4.out) x d hx2.out).mono ?_); rintro r1 w5 ⟨rfl, h5⟩; have h5 := hide h5))
          go_meet
          case rel => exact ⟨_, hB2.out, by rw [ht2.out]; exact h5.out.p1.drop⟩
        · have ga0 : (ak == 0) = false := by rw [beq_eq_false_iff_ne]; exact hc0
          have ga1 : (ak == 1) = false := by rw [beq_eq_false_iff_ne]; exact hc1
          have ga2 : (ak == 2) = false := by rw [beq_eq_false_iff_ne]; exact hc2
          have ga3 : (ak == 3) = false := by rw [beq_eq_false_iff_ne]; exact hc3
          clear hc0 hc1 hc2 hc3
          go_wp2
          go_meet
          case rel => exact ⟨s, hB.out.stay, H4.out.drop⟩
      case rest =>
        obtain ⟨s', hB', hc⟩ := hcut
        have hc := hide hc
        replace hB' := hide hB'
        clear hB H4 h3 y0 y1 hsm
        obtain ⟨gs, hgs⟩ : ∃ gs, s'.ghosts = gs := ⟨_, rfl⟩
        obtain ⟨G, hG⟩ : ∃ G, gs.length = G := ⟨_, rfl⟩
        obtain ⟨t1, t2, t3, t4⟩ := hB'.out.tells
        rw [hgs] at t1 t2 t4
        rw [hG] at t4
        have hmo := hm.out
        have cG := hide (fun (w' : World) (hw : Holds W w' (IsLn b tb s' :: IsTape tb s'.tape :: [])) => by
          have c := Ln_Ghosts hw (by have := hgs; unfold Ln.ghosts at this; have h2 := congrArg List.length this; rw [List.length_append, hG] at h2; omega)
          rw [hgs] at c
          exact c)
        replace hG := hide hG
        replace hgs := hide hgs
        have hmm := @run_makeMap Tryz.prog
        go_upto_region 30 with (first
          | (go_at_call 16; (with_reducible refine (cG.out _ hc.out).mono ?_); rintro r1 w7 ⟨v1, rfl, h7⟩; obtain ⟨ag, cg, hvg⟩ := (Holds.strsAt h7).shape; rw [strs_length, hG.out] at hvg; subst hvg; have h7 := hide h7))
        obtain ⟨bm, hbm⟩ : ∃ r, w7.heap.size = r := ⟨_, rfl⟩
        have h8 := Holds.newMap h7.out
        rw [hbm] at h8
        try simp only [hbm]
        generalize w7.alloc (.map #[] 0) = W8 at h8 ⊢
        clear hbm h7 cG hc
        have h8 := hide h8
        replace t1 := hide t1
        replace t2 := hide t2
        go_wp2
        go_loopg [21] (G) (fun cc x wr => ∃ (j : Nat) (l : Assoc), Hide (G - j = cc) ∧ j ≤ G ∧ x = .int .i64 (j : Nat) ∧ Hide (∀ k, l.has k = decide (k ∈ gs.take j)) ∧ Hide (∀ k, (l.get k).getD (.bool false) = .bool (l.has k)) ∧ Holds W wr (OwnMap bm l :: OwnStrs (.slice ag G cg) gs :: IsLn b tb s' :: IsTape tb s'.tape :: []))
        case atStart => exact ⟨0, [], ⟨rfl⟩, Nat.zero_le _, rfl, ⟨fun k => by rw [List.take_zero]; rfl⟩, ⟨fun k => rfl⟩, h8.out⟩
        case round =>
          clear h8
          obtain ⟨j, l, hcj, hjn, rfl, q1, q2, hh⟩ := hrel
          have h9 := hide hh
          clear hh
          by_cases hjl : j < G
          · have hjl' : (j : Int) < G := by omega
            have e2 : IntKind.i64.wrap ((j : Int) + 1) = ((j + 1 : Nat) : Int) := by rw [IntWalk.i64_in _ (by omega)]; omega
            obtain ⟨y, hy⟩ : ∃ x, gs[j]? = some x := ⟨_, List.getElem?_eq_getElem (by rw [hG.out]; exact hjl)⟩
            obtain ⟨bg, og, hag, cy⟩ := RowAt.strCell (Holds.strsAt (Holds.p1 h9.out)) hy
            subst hag
            have hyf : s'.has y = false := t2.out y (List.mem_of_getElem? hy)
            have hno : l.has y = false := by
              rw [q1.out]
              refine decide_eq_false fun hc => ?_
              obtain ⟨i2, hi3⟩ := List.mem_iff_getElem?.1 hc
              have hi2 := (List.getElem?_eq_some_iff.1 hi3).1
              rw [List.length_take] at hi2
              rw [List.getElem?_take_of_lt (by omega)] at hi3
              have := (List.getElem?_inj (by rw [hG.out]; omega) t1.out).1 (hi3.trans hy.symm)
              omega
            have hlk : (l.get y).getD (.bool false) = .bool false := by rw [q2.out, hno]
            have cH := hide (fun w' (k : Keep wr w') => Ln_Has (Holds.p2 (h9.out.keep k)) y false hyf)
            replace hlk := hide hlk
            replace hno := hide hno
            replace hy := hide hy
            clear hyf
            go_wp2_with (first
              | (go_at_call 25; (with_reducible refine (cH.out _ (by first | exact Keep.refl _ | exact (Keep.refl _).drew)).mono ?_); rintro r1 w10 ⟨rfl, k10⟩; have h10 := hide (h9.out.keep k10); have hL := h10.out.lookup Tryz.underlying27 Tryz.underlying9 zeroBool y; rw [hlk.out] at hL; have cy2 := k10.cell cy)
              | (at_mapUpdate; refine wpList_update_map rfl _ _ _ rfl Tryz.underlying27 Tryz.underlying9 h10.out y (.bool true) rfl rfl rfl ?_; intro w11 h11; have h11 := hide h11))
            go_roundg (G - (j + 1))
            case measure => rw [← hcj.out]; omega
            case rel =>
              refine ⟨j + 1, l.put y (.bool true), ⟨rfl⟩, by omega, rfl, ⟨fun c => ?_⟩, ⟨fun c => ?_⟩, h11.out⟩
              · rw [as_has_put, q1.out, List.take_add_one, hy.out]
                simp only [Option.toList_some, List.mem_append, List.mem_singleton, Bool.decide_or]
                congr 1
                exact decide_eq_decide.2 eq_comm
              · rw [as_get_put, as_has_put]
                by_cases hk : y = c
                · rw [if_pos hk, decide_eq_true hk, Bool.or_true]
                  rfl
                · rw [if_neg hk, decide_eq_false hk, Bool.or_false]
                  exact q2.out c
          · obtain rfl : j = G := by omega
            have hjl' : ¬ (j : Int) < j := by omega
            have h9 := hide (h9.out.drop)
            obtain ⟨wt, hwt⟩ : ∃ x, s'.w = x := ⟨_, rfl⟩
            obtain ⟨rt, hrt⟩ : ∃ x, s'.rate = x := ⟨_, rfl⟩
            obtain ⟨ln, hln⟩ : ∃ x, s'.len = x := ⟨_, rfl⟩
            have b1 := hB'.out.fit.w
            have b2 := hB'.out.fit.rate
            have b3 := hB'.out.five
            rw [hwt] at b1
            rw [hrt] at b2 b3
            rw [hln] at t3
            obtain ⟨top, htop⟩ : ∃ x : Nat, x = 4611686018427387904 - least := ⟨_, rfl⟩
            have f0 : IntKind.u64.wrap (4611686018427387904 - (least : Int)) = (top : Int) := by have := hleast.out; rw [IntKind.wrap_u64]; omega
            have f1 : decide ((wt : Int) < (least : Int)) = false := decide_eq_false (by have := hleast.out; omega)
            have f2 : decide ((top : Int) < (wt : Int)) = false := decide_eq_false (by have := hleast.out; omega)
            have f3 : decide ((rt : Int) < (slow : Int)) = false := decide_eq_false (by have := hslow.out; omega)
            have f4 : decide ((4611686018427387904 : Int) < (rt : Int)) = false := decide_eq_false (by omega)
            have f5 : decide ((m : Int) < (ln : Int)) = false := decide_eq_false (by omega)
            have f6 : IntKind.i64.wrap (2 * (m : Int)) = 2 * (m : Int) := IntWalk.i64_in _ (by omega)
            have f7 : decide (2 * (m : Int) < (j : Int)) = false := decide_eq_false (by omega)
            have f8 : (kind == 5) = true → ((rt : Int) != (start : Int)) = false := fun h => by
              have h5 : kind = 5 := by simpa using h
              rw [b3 h5, hstart.out, bne_self_eq_false]
            have g1 : least ≤ wt := by have := hleast.out; omega
            have g2 : wt ≤ top := by have := hleast.out; omega
            have g3 : slow ≤ rt := by have := hslow.out; omega
            have g5 : ln ≤ m := by omega
            clear htop
            have c4 := Bool.eq_false_or_eq_true (kind == 5)
            have hlm : s'.len < 1000000 := by omega
            replace hwt := hide hwt
            replace hrt := hide hrt
            replace hln := hide hln
            replace f8 := hide f8
            clear b1 b2 b3 t3 t4 q1 q2 hcj hjn
            rcases c4 with c4 | c4
            · have f9 := f8.out c4
              go_wp2_with (first
                | (go_at_call 14; (with_reducible refine (Ln_Weight (Holds.p1 h9.out) wt hwt.out).mono ?_); rintro q1 w20 ⟨rfl, rfl⟩)
                | (go_at_call 19; (with_reducible refine (Ln_Rate (Holds.p1 h9.out) rt hrt.out).mono ?_); rintro q2 w21 ⟨rfl, rfl⟩)
                | (go_at_call 18; (with_reducible refine (Ln_Len (Holds.p1 h9.out) ln hln.out hlm).mono ?_); rintro q3 w22 ⟨rfl, dn, rfl⟩; have h9 := hide (h9.out.drewN (n := dn)))
                | (go_at_call 19; (with_reducible refine (Ln_Rate (Holds.p1 (h9.out.drewN (n := dn))) rt hrt.out).mono ?_); rintro q4 w23 ⟨rfl, rfl⟩))
              go_roundg (n - (i + 1))
              case measure => rw [← hci.out]; omega
              case rel => exact ⟨i + 1, s', ⟨rfl⟩, by omega, rfl, hB'.out, h9.out.drop⟩
            · go_wp2_with (first
                | (go_at_call 14; (with_reducible refine (Ln_Weight (Holds.p1 h9.out) wt hwt.out).mono ?_); rintro q1 w20 ⟨rfl, rfl⟩)
                | (go_at_call 19; (with_reducible refine (Ln_Rate (Holds.p1 h9.out) rt hrt.out).mono ?_); rintro q2 w21 ⟨rfl, rfl⟩)
                | (go_at_call 18; (with_reducible refine (Ln_Len (Holds.p1 h9.out) ln hln.out hlm).mono ?_); rintro q3 w22 ⟨rfl, dn, rfl⟩; have h9 := hide (h9.out.drewN (n := dn)))
                | (go_at_call 19; (with_reducible refine (Ln_Rate (Holds.p1 (h9.out.drewN (n := dn))) rt hrt.out).mono ?_); rintro q4 w23 ⟨rfl, rfl⟩))
              go_roundg (n - (i + 1))
              case measure => rw [← hci.out]; omega
              case rel => exact ⟨i + 1, s', ⟨rfl⟩, by omega, rfl, hB'.out, h9.out.drop⟩
    · obtain rfl : i = n := by omega
      have hlt' : ¬ (i : Int) < i := by omega
      go_wp2
      go_ret
      exact ⟨rfl, h3.out.nil⟩
end Go.Proofs.YteledfiechbhgaaGreatDoor
