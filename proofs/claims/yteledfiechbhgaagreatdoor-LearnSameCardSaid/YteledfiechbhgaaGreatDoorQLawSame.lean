/- The law LearnSame: its walk. -/
import Derived.Test.YteledfiechbhgaaGreatDoorQAwake10
import Derived.Test.YteledfiechbhgaaGreatDoorQRefs10
import Derived.Deep.DeepCutAuto
namespace Go.Proofs.YteledfiechbhgaaGreatDoor
open Go Go.RowKit

theorem Pol.keys_fit {i m : Nat} {p : Pol} (h : p.Fit i m) : p.keys.length ≤ i := by
  have h2 := Pol.len_fit h
  cases p with
  | lru s => show s.ks.reverse.length ≤ i; rw [List.length_reverse]; exact h2
  | lfu s => show (hKeys s.srt).length ≤ i; unfold hKeys; rw [List.length_map]; exact h2
  | sr s => show (s.n.reverse ++ s.a.reverse).length ≤ i; rw [List.length_append, List.length_reverse, List.length_reverse]; exact h2
theorem Holds.strsAt {g w : World} {v : Value} {l : List ByteArray} {F : List SProp} (h : Holds g w (OwnStrs v l :: F)) : RowAt w v (strs l) := by
  unfold OwnStrs at h
  exact h.rowAt
set_option maxRecDepth 100000
set_option maxHeartbeats 4000000
theorem walk_LearnSame (kind most : Int) (vl vs : Value) (lane : List Nat) (sc : List Act5) (W : World) (hE : Env W) (hl : RowR W vl (nums64 lane)) (hll : ∀ x ∈ lane, x < 18446744073709551616) (hs : ScriptAt W vs sc) :
    Calls Tryz.prog 7 #[.int .i64 kind, .int .i64 most, vl, vs] W fun e w' => e = .returned (.bool true) ∧ Holds W w' [] := by
  have hE := hide hE
  obtain ⟨al, cl, hvl⟩ := hl.shape
  obtain ⟨asl, cs, hvs⟩ := hs.shape
  rw [nums64_length] at hvl
  subst hvl
  subst hvs
  obtain ⟨N, hN⟩ : ∃ N, lane.length = N := ⟨_, rfl⟩
  obtain ⟨n, hn⟩ : ∃ n, sc.length = n := ⟨_, rfl⟩
  obtain ⟨fw, hfw⟩ : ∃ b, few sc = b := ⟨_, rfl⟩
  rw [hN] at hl ⊢
  rw [hn] at hs ⊢
  have hF := hide (fun w' (k : Keep W w') => Few_any (hs.keep k) fw hfw)
  replace hN := hide hN
  replace hn := hide hn
  replace hl := hide hl
  replace hs := hide hs
  replace hll := hide hll
  have h0 := hide (Holds.start W)
  cases fw with
  | false =>
    go_enter Tryz.func7, Tryz.ntmps7
    go_wp2_with (first
      | (go_at_call 11; (with_reducible refine (awake10 W hE.out).mono ?_); rintro r w1 ⟨rfl, k1⟩; have k1 := hide k1)
      | (go_at_call 21; (with_reducible refine (hF.out _ k1.out).mono ?_); rintro r w2 ⟨rfl, rfl⟩))
    go_ret
    exact ⟨rfl, h0.out.keep k1.out⟩
  | true =>
  have hnl : Hide (n ≤ 200) := ⟨by rw [← hn.out]; exact few_len hfw⟩
  by_cases g2 : 300 < N
  · have g2' : (300 : Int) < N := by omega
    go_enter Tryz.func7, Tryz.ntmps7
    go_wp2_with (first
      | (go_at_call 11; (with_reducible refine (awake10 W hE.out).mono ?_); rintro r w1 ⟨rfl, k1⟩; have k1 := hide k1)
      | (go_at_call 21; (with_reducible refine (hF.out _ k1.out).mono ?_); rintro r w2 ⟨rfl, rfl⟩))
    go_ret
    exact ⟨rfl, h0.out.keep k1.out⟩
  have g2' : ¬ (300 : Int) < N := by omega
  by_cases g3 : kind < 5
  · go_enter Tryz.func7, Tryz.ntmps7
    go_wp2_with (first
      | (go_at_call 11; (with_reducible refine (awake10 W hE.out).mono ?_); rintro r w1 ⟨rfl, k1⟩; have k1 := hide k1)
      | (go_at_call 21; (with_reducible refine (hF.out _ k1.out).mono ?_); rintro r w2 ⟨rfl, rfl⟩))
    go_ret
    exact ⟨rfl, h0.out.keep k1.out⟩
  by_cases g4 : 6 < kind
  · go_enter Tryz.func7, Tryz.ntmps7
    go_wp2_with (first
      | (go_at_call 11; (with_reducible refine (awake10 W hE.out).mono ?_); rintro r w1 ⟨rfl, k1⟩; have k1 := hide k1)
      | (go_at_call 21; (with_reducible refine (hF.out _ k1.out).mono ?_); rintro r w2 ⟨rfl, rfl⟩))
    go_ret
    exact ⟨rfl, h0.out.keep k1.out⟩
  by_cases g5 : most < 0
  · go_enter Tryz.func7, Tryz.ntmps7
    go_wp2_with (first
      | (go_at_call 11; (with_reducible refine (awake10 W hE.out).mono ?_); rintro r w1 ⟨rfl, k1⟩; have k1 := hide k1)
      | (go_at_call 21; (with_reducible refine (hF.out _ k1.out).mono ?_); rintro r w2 ⟨rfl, rfl⟩))
    go_ret
    exact ⟨rfl, h0.out.keep k1.out⟩
  by_cases g6 : 1000 < most
  · go_enter Tryz.func7, Tryz.ntmps7
    go_wp2_with (first
      | (go_at_call 11; (with_reducible refine (awake10 W hE.out).mono ?_); rintro r w1 ⟨rfl, k1⟩; have k1 := hide k1)
      | (go_at_call 21; (with_reducible refine (hF.out _ k1.out).mono ?_); rintro r w2 ⟨rfl, rfl⟩))
    go_ret
    exact ⟨rfl, h0.out.keep k1.out⟩
  obtain ⟨m, rfl⟩ : ∃ m : Nat, most = m := ⟨most.toNat, by omega⟩
  have hk56 : Hide (kind = 5 ∨ kind = 6) := ⟨by omega⟩
  have hm : Hide (m ≤ 1000) := ⟨by omega⟩
  have hNl : Hide (lane.length ≤ 300) := ⟨by rw [hN.out]; omega⟩
  clear hfw
  go_enter Tryz.func7, Tryz.ntmps7
  go_wp2_with (first
    | (go_at_call 11; (with_reducible refine (awake10 W hE.out).mono ?_); rintro r w1 ⟨rfl, k1⟩; have k1 := hide k1)
    | (go_at_call 21; (with_reducible refine (hF.out _ k1.out).mono ?_); rintro r w2 ⟨rfl, rfl⟩)
    | (go_at_call 12; (with_reducible refine (Made kind hk56.out m (by have := hm.out; omega) _ lane (by have := hNl.out; omega) (fun wx hx => hl.out.keep hx.toKeep) (h0.out.keep k1.out)).mono ?_); rintro r w3 ⟨b, tb, rfl, h3⟩; have h3 := hide h3)
    | (go_at_call 12; (with_reducible refine (Made kind hk56.out m (by have := hm.out; omega) _ lane (by have := hNl.out; omega) (fun wx hx => hl.out.keep hx.toKeep) h3.out).mono ?_); rintro r w4 ⟨c, tc, rfl, h4⟩; have h4 := hide h4))
  have hF0 := hide (Ln.new_fit kind m [lane] 0 (by intro l hl x hx; rw [List.mem_singleton] at hl; subst hl; exact hll.out x hx))
  clear g2 g3 g4 g5 g6 g2'
  go_loopg [11] (n) (fun cc x wr => ∃ i s, Hide (n - i = cc) ∧ i ≤ n ∧ x = .int .i64 (i : Nat) ∧ s.most = m ∧ s.Fit (4 * i) ∧ Holds W wr (IsLn c tc s :: IsTape tc s.tape :: IsLn b tb s :: IsTape tb s.tape :: []))
  case atStart => exact ⟨0, Ln.new kind m [lane] 0, ⟨rfl⟩, Nat.zero_le _, rfl, rfl, hF0.out, h4.out⟩
  case round =>
    clear h3 h4 hF0 hF
    obtain ⟨i, s, hci, hin, rfl, hmost, hF, hh⟩ := hrel
    have h3 := hide hh
    have hsW := hide (hs.out.keep hh.toKeep)
    clear hh
    by_cases hlt : i < n
    · have hlt' : (i : Int) < n := by omega
      have hnl2 := hnl.out
      have e1 : IntKind.i64.wrap ((i : Int) + 1) = (i : Int) + 1 := IntWalk.i64_in _ (by omega)
      obtain ⟨a, hx⟩ : ∃ x, sc[i]? = some x := ⟨_, List.getElem?_eq_getElem (by rw [hn.out]; exact hlt)⟩
      obtain ⟨bk, ok, hak, x0, x1, x2⟩ := hsW.out.cells hx
      subst hak
      replace hx := hide hx
      obtain ⟨ak, key, an⟩ := a
      dsimp only at x0 x1 x2
      obtain ⟨rx, hrx⟩ : ∃ r, wr.heap.size = r := ⟨_, rfl⟩
      have H4 := h3.out.alloc (o := .cells #[.int .i64 ak, .string key, .int .i64 an] 47)
      rw [hrx] at H4
      go_upto_region 12 with fail
      try simp only [hrx]
      generalize wr.alloc (.cells #[.int .i64 ak, .string key, .int .i64 an] 47) = W4 at H4 ⊢
      clear hrx x0 x1 x2
      have y0 : W4.cell? ⟨rx, 0, none⟩ = some (.int .i64 ak) := Holds.cell H4 rfl
      have y1 : W4.cell? ⟨rx, 1, none⟩ = some (.string key) := Holds.cell H4 rfl
      have H4 := hide H4
      replace hF := hide hF
      have hsm : Hide (s.most ≤ 16777216) := ⟨by rw [hmost]; have := hm.out; omega⟩
      replace hmost := hide hmost
      have hcase : ak = 0 ∨ ak = 1 ∨ ak = 2 ∨ (ak ≠ 0 ∧ ak ≠ 1 ∧ ak ≠ 2) := by omega
      rcases hcase with rfl | rfl | rfl | ⟨hc0, hc1, hc2⟩
      · obtain ⟨⟨s2, ⟨hit, x, out⟩⟩, hs2⟩ : ∃ q, s.req key = q := ⟨_, rfl⟩
        have hF2 : Hide (s2.Fit (4 * (i + 1))) := ⟨by have := Ln.req_fit hF.out key; rw [hs2] at this; exact this⟩
        have hm2 : Hide (s2.most = m) := ⟨by have := (Ln.req_like s key).most; rw [hs2] at this; exact this.trans hmost.out⟩
        have cR := hide (fun (w' : World) (p q : Nat) (L : List SProp) (hw : Holds W w' (IsLn p q s :: IsTape q s.tape :: L)) => by
          have c := Ln_Request hw key (4 * i) hF.out (by omega) hsm.out
          rw [hs2] at c
          dsimp only [stepV] at c
          exact c)
        replace hs2 := hide hs2
        have S4 := hide y1
        go_upto_region 14 with fail
        go_region_held3 (fun w' => w'.cell? ⟨rx, 1, none⟩ = some (.string key)) (first | exact S4.out | exact S5.out | exact S6.out)
          ((first
            | (go_at_call 17; (with_reducible refine (cR.out _ _ _ _ (Holds.p1 (Holds.p4 (Holds.p3 H4.out.drew)))).mono ?_); rintro r1 w5 ⟨rfl, h5⟩; have S5 := hide (Holds.cell (off := 1) (v := .string key) (Holds.p2 h5) rfl); have h5 := hide h5)
            | (go_at_call 17; (with_reducible refine (cR.out _ _ _ _ (Holds.p1 (Holds.p4 (Holds.p3 h5.out)))).mono ?_); rintro r2 w6 ⟨rfl, h6⟩; have S6 := hide (Holds.cell (off := 1) (v := .string key) (Holds.p4 h6) rfl); have h6 := hide h6)))
        all_goals
        have h5 := hide h6.out.p4.drop
        clear S4 S5 S6 y0 y1 H4 cR h6
        obtain ⟨wt, hwt⟩ : ∃ n, (s2).w = n := ⟨_, rfl⟩
        obtain ⟨rt, hrt⟩ : ∃ n, (s2).rate = n := ⟨_, rfl⟩
        have hln : Hide ((s2).len ≤ 1000000 ∧ (s2).A.keys.length ≤ 10000000 ∧ (s2).GA.length + (s2).GB.length ≤ 2000000 ∧ (s2).ghosts.length ≤ 10000000) := ⟨by
          have h1 := Pol.len_fit hF2.out.a
          have h2 := Pol.keys_fit hF2.out.a
          have h3 := hF2.out.ga
          have h4 := hF2.out.gb
          refine ⟨by show (s2).A.len ≤ _; omega, by omega, by omega, ?_⟩
          unfold Ln.ghosts
          rw [List.length_append]
          omega⟩
        replace hwt := hide hwt
        replace hrt := hide hrt
        go_wp2_with (first
          | (go_at_call 14; (with_reducible refine (Ln_Weight (Holds.p2 h5.out) wt hwt.out).mono ?_); rintro q1 w6 ⟨rfl, rfl⟩)
          | (go_at_call 14; (with_reducible refine (Ln_Weight h5.out wt hwt.out).mono ?_); rintro q2 w7 ⟨rfl, rfl⟩)
          | (go_at_call 19; (with_reducible refine (Ln_Rate (Holds.p2 h5.out) rt hrt.out).mono ?_); rintro q3 w8 ⟨rfl, rfl⟩)
          | (go_at_call 19; (with_reducible refine (Ln_Rate h5.out rt hrt.out).mono ?_); rintro q4 w9 ⟨rfl, rfl⟩)
          | (go_at_call 20; (with_reducible refine (Ln_Keys (Holds.p2 h5.out) hF2.out.al hln.out.1).mono ?_); rintro q5 w10 ⟨v1, rfl, h6⟩; have h6 := hide h6)
          | (go_at_call 20; (with_reducible refine (Ln_Keys (Holds.p2 h6.out) hF2.out.al hln.out.1).mono ?_); rintro q6 w11 ⟨v2, rfl, h7⟩; have h7 := hide h7)
          | (go_at_call 24; (with_reducible refine (Ref3_Same (Holds.strsAt (Holds.p2 h7.out)) (Holds.strsAt h7.out) hln.out.2.1).mono ?_); rintro q7 w12 ⟨rfl, m1, rfl⟩; have h8 := hide (h7.out.drewN (n := m1)).p3)
          | (go_at_call 16; (with_reducible refine (Ln_Ghosts h8.out hln.out.2.2.1).mono ?_); rintro q8 w13 ⟨v3, rfl, h9⟩; have h9 := hide h9.p3)
          | (go_at_call 16; (with_reducible refine (Ln_Ghosts h9.out hln.out.2.2.1).mono ?_); rintro q9 w14 ⟨v4, rfl, h10⟩; have h10 := hide h10)
          | (go_at_call 24; (with_reducible refine (Ref3_Same (Holds.strsAt (Holds.p2 h10.out)) (Holds.strsAt h10.out) hln.out.2.2.2).mono ?_); rintro q10 w15 ⟨rfl, m2, rfl⟩; have h11 := hide (h10.out.drewN (n := m2))))
        go_roundg (n - (i + 1))
        case measure => rw [← hci.out]; omega
        case rel => exact ⟨i + 1, s2, ⟨rfl⟩, by omega, rfl, hm2.out, hF2.out, h11.out.drop.p1.drop.p2.drop.p2.drop.p2.p1⟩
      · obtain ⟨d, hd⟩ : ∃ d, s.has key = d := ⟨_, rfl⟩
        have hF2 : Hide ((s.remove key).Fit (4 * (i + 1))) := ⟨Ln.remove_fit (hF.out.mono (by omega)) key⟩
        have hm2 : Hide ((s.remove key).most = m) := ⟨by first | exact hmost.out | exact hm3.out⟩
        have cR := hide (fun (w' : World) (p q : Nat) (L : List SProp) (hw : Holds W w' (IsLn p q s :: L)) => by
          have c := Ln_Remove hw key _ rfl
          rw [hd] at c
          exact c)
        replace hd := hide hd
        have S4 := hide y1
        go_upto_region 17 with fail
        go_region_held3 (fun w' => w'.cell? ⟨rx, 1, none⟩ = some (.string key)) (first | exact S4.out | exact S5.out | exact S6.out)
          ((first
            | (go_at_call 22; (with_reducible refine (cR.out _ _ _ _ (Holds.p3 H4.out.drew)).mono ?_); rintro r1 w5 ⟨rfl, h5⟩; have S5 := hide (Holds.cell (off := 1) (v := .string key) (Holds.p1 h5) rfl); have h5 := hide h5)
            | (go_at_call 22; (with_reducible refine (cR.out _ _ _ _ (Holds.p2 h5.out)).mono ?_); rintro r2 w6 ⟨rfl, h6⟩; have S6 := hide (Holds.cell (off := 1) (v := .string key) (Holds.p2 h6) rfl); have h6 := hide h6)))
        all_goals
        have h5 := hide (h6.out.p2.drop.p2.p1)
        clear S4 S5 S6 y0 y1 H4 cR h6
        obtain ⟨wt, hwt⟩ : ∃ n, (s.remove key).w = n := ⟨_, rfl⟩
        obtain ⟨rt, hrt⟩ : ∃ n, (s.remove key).rate = n := ⟨_, rfl⟩
        have hln : Hide ((s.remove key).len ≤ 1000000 ∧ (s.remove key).A.keys.length ≤ 10000000 ∧ (s.remove key).GA.length + (s.remove key).GB.length ≤ 2000000 ∧ (s.remove key).ghosts.length ≤ 10000000) := ⟨by
          have h1 := Pol.len_fit hF2.out.a
          have h2 := Pol.keys_fit hF2.out.a
          have h3 := hF2.out.ga
          have h4 := hF2.out.gb
          refine ⟨by show (s.remove key).A.len ≤ _; omega, by omega, by omega, ?_⟩
          unfold Ln.ghosts
          rw [List.length_append]
          omega⟩
        replace hwt := hide hwt
        replace hrt := hide hrt
        go_wp2_with (first
          | (go_at_call 14; (with_reducible refine (Ln_Weight (Holds.p2 h5.out) wt hwt.out).mono ?_); rintro q1 w6 ⟨rfl, rfl⟩)
          | (go_at_call 14; (with_reducible refine (Ln_Weight h5.out wt hwt.out).mono ?_); rintro q2 w7 ⟨rfl, rfl⟩)
          | (go_at_call 19; (with_reducible refine (Ln_Rate (Holds.p2 h5.out) rt hrt.out).mono ?_); rintro q3 w8 ⟨rfl, rfl⟩)
          | (go_at_call 19; (with_reducible refine (Ln_Rate h5.out rt hrt.out).mono ?_); rintro q4 w9 ⟨rfl, rfl⟩)
          | (go_at_call 20; (with_reducible refine (Ln_Keys (Holds.p2 h5.out) hF2.out.al hln.out.1).mono ?_); rintro q5 w10 ⟨v1, rfl, h6⟩; have h6 := hide h6)
          | (go_at_call 20; (with_reducible refine (Ln_Keys (Holds.p2 h6.out) hF2.out.al hln.out.1).mono ?_); rintro q6 w11 ⟨v2, rfl, h7⟩; have h7 := hide h7)
          | (go_at_call 24; (with_reducible refine (Ref3_Same (Holds.strsAt (Holds.p2 h7.out)) (Holds.strsAt h7.out) hln.out.2.1).mono ?_); rintro q7 w12 ⟨rfl, m1, rfl⟩; have h8 := hide (h7.out.drewN (n := m1)).p3)
          | (go_at_call 16; (with_reducible refine (Ln_Ghosts h8.out hln.out.2.2.1).mono ?_); rintro q8 w13 ⟨v3, rfl, h9⟩; have h9 := hide h9.p3)
          | (go_at_call 16; (with_reducible refine (Ln_Ghosts h9.out hln.out.2.2.1).mono ?_); rintro q9 w14 ⟨v4, rfl, h10⟩; have h10 := hide h10)
          | (go_at_call 24; (with_reducible refine (Ref3_Same (Holds.strsAt (Holds.p2 h10.out)) (Holds.strsAt h10.out) hln.out.2.2.2).mono ?_); rintro q10 w15 ⟨rfl, m2, rfl⟩; have h11 := hide (h10.out.drewN (n := m2))))
        go_roundg (n - (i + 1))
        case measure => rw [← hci.out]; omega
        case rel => exact ⟨i + 1, s.remove key, ⟨rfl⟩, by omega, rfl, hm2.out, hF2.out, h11.out.drop.p1.drop.p2.drop.p2.drop.p2.p1⟩
      · have ht2 : Hide ((s.adopt key).1.tape = s.tape) := ⟨by unfold Ln.adopt; split <;> rfl⟩
        have hm3 : Hide ((s.adopt key).1.most = m) := ⟨(Ln.adopt_like s key).most.trans hmost.out⟩
        obtain ⟨d, hd⟩ : ∃ d, (s.adopt key).2 = d := ⟨_, rfl⟩
        have hF2 : Hide ((s.adopt key |>.1).Fit (4 * (i + 1))) := ⟨(Ln.adopt_fit hF.out key).mono (by omega)⟩
        have hm2 : Hide ((s.adopt key |>.1).most = m) := ⟨by first | exact hmost.out | exact hm3.out⟩
        have cR := hide (fun (w' : World) (p q : Nat) (L : List SProp) (hw : Holds W w' (IsLn p q s :: L)) => by
          have c := Ln_Adopt hw key (4 * i) hF.out (by omega)
          rw [hd] at c
          exact c)
        replace hd := hide hd
        have S4 := hide y1
        go_upto_region 20 with fail
        go_region_held3 (fun w' => w'.cell? ⟨rx, 1, none⟩ = some (.string key)) (first | exact S4.out | exact S5.out | exact S6.out)
          ((first
            | (go_at_call 23; (with_reducible refine (cR.out _ _ _ _ (Holds.p3 H4.out.drew)).mono ?_); rintro r1 w5 ⟨rfl, h5⟩; have S5 := hide (Holds.cell (off := 1) (v := .string key) (Holds.p1 h5) rfl); have h5 := hide h5)
            | (go_at_call 23; (with_reducible refine (cR.out _ _ _ _ (Holds.p2 h5.out)).mono ?_); rintro r2 w6 ⟨rfl, h6⟩; have S6 := hide (Holds.cell (off := 1) (v := .string key) (Holds.p2 h6) rfl); have h6 := hide h6)))
        all_goals
        have h5 : Hide (Holds W _ (IsLn c tc (s.adopt key).1 :: IsTape tc (s.adopt key).1.tape :: IsLn b tb (s.adopt key).1 :: IsTape tb (s.adopt key).1.tape :: [])) := ⟨by rw [ht2.out]; exact h6.out.p2.drop.p2.p1⟩
        clear S4 S5 S6 y0 y1 H4 cR h6
        obtain ⟨wt, hwt⟩ : ∃ n, ((s.adopt key).1).w = n := ⟨_, rfl⟩
        obtain ⟨rt, hrt⟩ : ∃ n, ((s.adopt key).1).rate = n := ⟨_, rfl⟩
        have hln : Hide (((s.adopt key).1).len ≤ 1000000 ∧ ((s.adopt key).1).A.keys.length ≤ 10000000 ∧ ((s.adopt key).1).GA.length + ((s.adopt key).1).GB.length ≤ 2000000 ∧ ((s.adopt key).1).ghosts.length ≤ 10000000) := ⟨by
          have h1 := Pol.len_fit hF2.out.a
          have h2 := Pol.keys_fit hF2.out.a
          have h3 := hF2.out.ga
          have h4 := hF2.out.gb
          refine ⟨by show ((s.adopt key).1).A.len ≤ _; omega, by omega, by omega, ?_⟩
          unfold Ln.ghosts
          rw [List.length_append]
          omega⟩
        replace hwt := hide hwt
        replace hrt := hide hrt
        go_wp2_with (first
          | (go_at_call 14; (with_reducible refine (Ln_Weight (Holds.p2 h5.out) wt hwt.out).mono ?_); rintro q1 w6 ⟨rfl, rfl⟩)
          | (go_at_call 14; (with_reducible refine (Ln_Weight h5.out wt hwt.out).mono ?_); rintro q2 w7 ⟨rfl, rfl⟩)
          | (go_at_call 19; (with_reducible refine (Ln_Rate (Holds.p2 h5.out) rt hrt.out).mono ?_); rintro q3 w8 ⟨rfl, rfl⟩)
          | (go_at_call 19; (with_reducible refine (Ln_Rate h5.out rt hrt.out).mono ?_); rintro q4 w9 ⟨rfl, rfl⟩)
          | (go_at_call 20; (with_reducible refine (Ln_Keys (Holds.p2 h5.out) hF2.out.al hln.out.1).mono ?_); rintro q5 w10 ⟨v1, rfl, h6⟩; have h6 := hide h6)
          | (go_at_call 20; (with_reducible refine (Ln_Keys (Holds.p2 h6.out) hF2.out.al hln.out.1).mono ?_); rintro q6 w11 ⟨v2, rfl, h7⟩; have h7 := hide h7)
          | (go_at_call 24; (with_reducible refine (Ref3_Same (Holds.strsAt (Holds.p2 h7.out)) (Holds.strsAt h7.out) hln.out.2.1).mono ?_); rintro q7 w12 ⟨rfl, m1, rfl⟩; have h8 := hide (h7.out.drewN (n := m1)).p3)
          | (go_at_call 16; (with_reducible refine (Ln_Ghosts h8.out hln.out.2.2.1).mono ?_); rintro q8 w13 ⟨v3, rfl, h9⟩; have h9 := hide h9.p3)
          | (go_at_call 16; (with_reducible refine (Ln_Ghosts h9.out hln.out.2.2.1).mono ?_); rintro q9 w14 ⟨v4, rfl, h10⟩; have h10 := hide h10)
          | (go_at_call 24; (with_reducible refine (Ref3_Same (Holds.strsAt (Holds.p2 h10.out)) (Holds.strsAt h10.out) hln.out.2.2.2).mono ?_); rintro q10 w15 ⟨rfl, m2, rfl⟩; have h11 := hide (h10.out.drewN (n := m2))))
        go_roundg (n - (i + 1))
        case measure => rw [← hci.out]; omega
        case rel => exact ⟨i + 1, (s.adopt key).1, ⟨rfl⟩, by omega, rfl, hm2.out, hF2.out, h11.out.drop.p1.drop.p2.drop.p2.drop.p2.p1⟩
      · have ga0 : (ak == 0) = false := by rw [beq_eq_false_iff_ne]; exact hc0
        have ga1 : (ak == 1) = false := by rw [beq_eq_false_iff_ne]; exact hc1
        have ga2 : (ak == 2) = false := by rw [beq_eq_false_iff_ne]; exact hc2
        have hF2 : Hide (s.Fit (4 * (i + 1))) := ⟨hF.out.mono (by omega)⟩
        have hm2 := hmost
        have h5 := hide H4.out.drop
        clear hc0 hc1 hc2
        obtain ⟨wt, hwt⟩ : ∃ n, (s).w = n := ⟨_, rfl⟩
        obtain ⟨rt, hrt⟩ : ∃ n, (s).rate = n := ⟨_, rfl⟩
        have hln : Hide ((s).len ≤ 1000000 ∧ (s).A.keys.length ≤ 10000000 ∧ (s).GA.length + (s).GB.length ≤ 2000000 ∧ (s).ghosts.length ≤ 10000000) := ⟨by
          have h1 := Pol.len_fit hF2.out.a
          have h2 := Pol.keys_fit hF2.out.a
          have h3 := hF2.out.ga
          have h4 := hF2.out.gb
          refine ⟨by show (s).A.len ≤ _; omega, by omega, by omega, ?_⟩
          unfold Ln.ghosts
          rw [List.length_append]
          omega⟩
        replace hwt := hide hwt
        replace hrt := hide hrt
        go_wp2_with (first
          | (go_at_call 14; (with_reducible refine (Ln_Weight (Holds.p2 h5.out) wt hwt.out).mono ?_); rintro q1 w6 ⟨rfl, rfl⟩)
          | (go_at_call 14; (with_reducible refine (Ln_Weight h5.out wt hwt.out).mono ?_); rintro q2 w7 ⟨rfl, rfl⟩)
          | (go_at_call 19; (with_reducible refine (Ln_Rate (Holds.p2 h5.out) rt hrt.out).mono ?_); rintro q3 w8 ⟨rfl, rfl⟩)
          | (go_at_call 19; (with_reducible refine (Ln_Rate h5.out rt hrt.out).mono ?_); rintro q4 w9 ⟨rfl, rfl⟩)
          | (go_at_call 20; (with_reducible refine (Ln_Keys (Holds.p2 h5.out) hF2.out.al hln.out.1).mono ?_); rintro q5 w10 ⟨v1, rfl, h6⟩; have h6 := hide h6)
          | (go_at_call 20; (with_reducible refine (Ln_Keys (Holds.p2 h6.out) hF2.out.al hln.out.1).mono ?_); rintro q6 w11 ⟨v2, rfl, h7⟩; have h7 := hide h7)
          | (go_at_call 24; (with_reducible refine (Ref3_Same (Holds.strsAt (Holds.p2 h7.out)) (Holds.strsAt h7.out) hln.out.2.1).mono ?_); rintro q7 w12 ⟨rfl, m1, rfl⟩; have h8 := hide (h7.out.drewN (n := m1)).p3)
          | (go_at_call 16; (with_reducible refine (Ln_Ghosts h8.out hln.out.2.2.1).mono ?_); rintro q8 w13 ⟨v3, rfl, h9⟩; have h9 := hide h9.p3)
          | (go_at_call 16; (with_reducible refine (Ln_Ghosts h9.out hln.out.2.2.1).mono ?_); rintro q9 w14 ⟨v4, rfl, h10⟩; have h10 := hide h10)
          | (go_at_call 24; (with_reducible refine (Ref3_Same (Holds.strsAt (Holds.p2 h10.out)) (Holds.strsAt h10.out) hln.out.2.2.2).mono ?_); rintro q10 w15 ⟨rfl, m2, rfl⟩; have h11 := hide (h10.out.drewN (n := m2))))
        go_roundg (n - (i + 1))
        case measure => rw [← hci.out]; omega
        case rel => exact ⟨i + 1, s, ⟨rfl⟩, by omega, rfl, hm2.out, hF2.out, h11.out.drop.p1.drop.p2.drop.p2.drop.p2.p1⟩
    · obtain rfl : i = n := by omega
      have hlt' : ¬ (i : Int) < i := by omega
      go_wp2
      go_ret
      exact ⟨rfl, h3.out.nil⟩
end Go.Proofs.YteledfiechbhgaaGreatDoor
