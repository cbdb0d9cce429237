/- The law LearnForgets: its walk. -/
import Derived.Test.YteledfiechbhgaaGreatDoorQLawTools
import Derived.Test.YteledfiechbhgaaGreatDoorQLn10
import Derived.Deep.DeepCutAuto
namespace Go.Proofs.YteledfiechbhgaaGreatDoor
open Go Go.RowKit

theorem RowAt.strCellAt {w : World} {b off n cap : Nat} {l : List ByteArray} (h : RowAt w (.slice (some ⟨b, off, none⟩) n cap) (strs l)) {i : Nat} {x : ByteArray} (hx : l[i]? = some x) : w.cell? ⟨b, off + i, none⟩ = some (.string x) := by
  obtain ⟨b', off', e, h⟩ := h.strCell hx
  cases e
  exact h
set_option maxRecDepth 100000
set_option maxHeartbeats 4000000
theorem walk_LearnForgets (kind most less : Int) (vl vk : Value) (lane : List Nat) (keys : List ByteArray) (W : World) (hE : Env W) (hl : RowR W vl (nums64 lane)) (hll : ∀ x ∈ lane, x < 18446744073709551616) (hk : RowR W vk (strs keys)) :
    Calls Tryz.prog 9 #[.int .i64 kind, .int .i64 most, vl, vk, .int .i64 less] W fun e w' => e = .returned (.bool true) ∧ Holds W w' [] := by
  have hE := hide hE
  obtain ⟨al, cl, hvl⟩ := hl.shape
  obtain ⟨ak, ck, hvk⟩ := hk.shape
  rw [nums64_length] at hvl
  rw [strs_length] at hvk
  subst hvl
  subst hvk
  obtain ⟨N, hN⟩ : ∃ N, lane.length = N := ⟨_, rfl⟩
  obtain ⟨n, hn⟩ : ∃ n, keys.length = n := ⟨_, rfl⟩
  rw [hN] at hl ⊢
  rw [hn] at hk ⊢
  replace hN := hide hN
  replace hn := hide hn
  replace hl := hide hl
  replace hk := hide hk
  replace hll := hide hll
  have h0 := hide (Holds.start W)
  by_cases g1 : 200 < n
  · have g1' : (200 : Int) < n := by omega
    go_enter Tryz.func9, Tryz.ntmps9
    go_wp2_with (go_at_call 11; (with_reducible refine (awake10 W hE.out).mono ?_); rintro r w1 ⟨rfl, k1⟩)
    go_ret
    exact ⟨rfl, h0.out.keep k1⟩
  have g1' : ¬ (200 : Int) < n := by omega
  by_cases g0 : n = 0
  · have g0' : ((n : Int) == 0) = true := by rw [g0]; rfl
    clear g0
    go_enter Tryz.func9, Tryz.ntmps9
    go_wp2_with (go_at_call 11; (with_reducible refine (awake10 W hE.out).mono ?_); rintro r w1 ⟨rfl, k1⟩)
    go_ret
    exact ⟨rfl, h0.out.keep k1⟩
  have g0' : ((n : Int) == 0) = false := by rw [beq_eq_false_iff_ne]; omega
  by_cases g2 : 300 < N
  · have g2' : (300 : Int) < N := by omega
    clear g0
    go_enter Tryz.func9, Tryz.ntmps9
    go_wp2_with (go_at_call 11; (with_reducible refine (awake10 W hE.out).mono ?_); rintro r w1 ⟨rfl, k1⟩)
    go_ret
    exact ⟨rfl, h0.out.keep k1⟩
  have g2' : ¬ (300 : Int) < N := by omega
  by_cases g3 : kind < 5
  · clear g0
    go_enter Tryz.func9, Tryz.ntmps9
    go_wp2_with (go_at_call 11; (with_reducible refine (awake10 W hE.out).mono ?_); rintro r w1 ⟨rfl, k1⟩)
    go_ret
    exact ⟨rfl, h0.out.keep k1⟩
  by_cases g4 : 6 < kind
  · clear g0
    go_enter Tryz.func9, Tryz.ntmps9
    go_wp2_with (go_at_call 11; (with_reducible refine (awake10 W hE.out).mono ?_); rintro r w1 ⟨rfl, k1⟩)
    go_ret
    exact ⟨rfl, h0.out.keep k1⟩
  by_cases g5 : most < 1
  · clear g0
    go_enter Tryz.func9, Tryz.ntmps9
    go_wp2_with (go_at_call 11; (with_reducible refine (awake10 W hE.out).mono ?_); rintro r w1 ⟨rfl, k1⟩)
    go_ret
    exact ⟨rfl, h0.out.keep k1⟩
  by_cases g6 : 1000 < most
  · clear g0
    go_enter Tryz.func9, Tryz.ntmps9
    go_wp2_with (go_at_call 11; (with_reducible refine (awake10 W hE.out).mono ?_); rintro r w1 ⟨rfl, k1⟩)
    go_ret
    exact ⟨rfl, h0.out.keep k1⟩
  by_cases g7 : less < 0
  · clear g0
    go_enter Tryz.func9, Tryz.ntmps9
    go_wp2_with (go_at_call 11; (with_reducible refine (awake10 W hE.out).mono ?_); rintro r w1 ⟨rfl, k1⟩)
    go_ret
    exact ⟨rfl, h0.out.keep k1⟩
  by_cases g8 : 1000 < less
  · clear g0
    go_enter Tryz.func9, Tryz.ntmps9
    go_wp2_with (go_at_call 11; (with_reducible refine (awake10 W hE.out).mono ?_); rintro r w1 ⟨rfl, k1⟩)
    go_ret
    exact ⟨rfl, h0.out.keep k1⟩
  obtain ⟨m, rfl⟩ : ∃ m : Nat, most = m := ⟨most.toNat, by omega⟩
  obtain ⟨q, rfl⟩ : ∃ m : Nat, less = m := ⟨less.toNat, by omega⟩
  have hk56 : Hide (kind = 5 ∨ kind = 6) := ⟨by omega⟩
  have hm : Hide (0 < m ∧ m ≤ 1000) := ⟨by omega⟩
  have hq : Hide (q ≤ 1000) := ⟨by omega⟩
  have hNl : Hide (lane.length ≤ 300) := ⟨by rw [hN.out]; omega⟩
  have hnl : Hide (0 < n ∧ n ≤ 200) := ⟨by omega⟩
  clear g0
  go_enter Tryz.func9, Tryz.ntmps9
  go_wp2_with (first
    | (go_at_call 11; (with_reducible refine (awake10 W hE.out).mono ?_); rintro r w1 ⟨rfl, k1⟩; have k1 := hide k1)
    | (go_at_call 12; (with_reducible refine (Made kind hk56.out m (by have := hm.out; omega) _ lane (by have := hNl.out; omega) (fun wx hx => hl.out.keep hx.toKeep) (h0.out.keep k1.out)).mono ?_); rintro r w2 ⟨b, tb, rfl, h2⟩; have h2 := hide h2))
  have hF0 := hide (Ln.new_fit kind m [lane] 0 (by intro l hl x hx; rw [List.mem_singleton] at hl; subst hl; exact hll.out x hx))
  have hI0 := hide (Ln.new_inv kind m [lane] 0)
  clear g0' g1 g2 g3 g4 g5 g6 g7 g8 g1' g2'
  go_loopg [12] (n) (fun c x wr => ∃ i s, Hide (n - i = c) ∧ i ≤ n ∧ x = .int .i64 (i : Nat) ∧ Hide (s.Inv) ∧ Hide (s.Fit (4 * i)) ∧ Hide (s.most = m) ∧ Holds W wr (IsLn b tb s :: IsTape tb s.tape :: []))
  case atStart => exact ⟨0, Ln.new kind m [lane] 0, ⟨rfl⟩, Nat.zero_le _, rfl, hI0, hF0, ⟨rfl⟩, h2.out⟩
  case round =>
    clear h2 hI0 hF0
    obtain ⟨i, s, hci, hin, rfl, hI, hF, hsm, hh⟩ := hrel
    have h3 := hide hh
    clear hh
    by_cases hlt : i < n
    · have hlt' : (i : Int) < n := by omega
      have hnl2 := hnl.out
      have e1 : IntKind.i64.wrap ((i : Int) + 1) = ((i + 1 : Nat) : Int) := by rw [IntWalk.i64_in _ (by omega)]; omega
      obtain ⟨key, hx⟩ : ∃ x, keys[i]? = some x := ⟨_, List.getElem?_eq_getElem (by rw [hn.out]; exact hlt)⟩
      obtain ⟨bk, ok, hak, cW⟩ := RowR.strCell hk.out hx
      subst hak
      have cx := h3.out.toKeep.cell cW
      replace cW := hide cW
      replace hx := hide hx
      by_cases hks : 200 < key.size
      · have hks' : (200 : Int) < key.size := by omega
        clear hks
        go_wp2
        go_ret
        exact ⟨rfl, h3.out.nil⟩
      · have hks' : ¬ (200 : Int) < key.size := by omega
        clear hks
        obtain ⟨⟨s2, ⟨hit, x, out⟩⟩, hs2⟩ : ∃ q, s.req key = q := ⟨_, rfl⟩
        have hI2 := (Ln.req_inv hI.out (by have := hsm.out; have := hm.out; omega) key).1
        have hF2 := Ln.req_fit hF.out key
        have hM2 := (Ln.req_like s key).most
        rw [hs2] at hI2 hF2 hM2
        dsimp only at hI2 hF2 hM2
        have hM2 := hide (hM2.trans hsm.out)
        replace hI2 := hide hI2
        have hF2 : Hide (s2.Fit (4 * (i + 1))) := ⟨hF2⟩
        have cR := hide (fun (w' : World) (L : List SProp) (hw : Holds W w' (IsLn b tb s :: IsTape tb s.tape :: L)) => by
          have c := Ln_Request hw key (4 * i) hF.out (by omega) (by have := hsm.out; have := hm.out; omega)
          rw [hs2] at c
          dsimp only [stepV] at c
          exact c)
        replace hs2 := hide hs2
        go_wp2_with (go_at_call 17; (with_reducible refine (cR.out _ _ h3.out).mono ?_); rintro r1 w6 ⟨rfl, h6⟩; have h6 := hide h6)
        go_roundg (n - (i + 1))
        case measure => rw [← hci.out]; omega
        case rel => exact ⟨i + 1, s2, ⟨rfl⟩, by omega, rfl, hI2, hF2, hM2, h6.out⟩
    · obtain rfl : i = n := by omega
      have hlt' : ¬ (i : Int) < i := by omega
      have h3 := hide (Holds.p1 h3.out).drop
      have hnl2 := hnl.out
      obtain ⟨key, hx⟩ : ∃ x, keys[0]? = some x := ⟨_, List.getElem?_eq_getElem (by rw [hn.out]; exact hnl2.1)⟩
      obtain ⟨bk, ok, hak, cW⟩ := RowR.strCell hk.out hx
      subst hak
      have cx : wr.cell? ⟨bk, ok, none⟩ = some (.string key) := h3.out.toKeep.cell cW
      have hi0 : (0 : Int) < i := by omega
      have hmo := hm.out
      have hqo := hq.out
      replace hx := hide hx
      -- what is told, step for step
      obtain ⟨ln, hln⟩ : ∃ x, s.len = x := ⟨_, rfl⟩
      have hlm : s.len < 1000000 := by have := hI.out.len; rw [← Ln.len_res, hsm.out] at this; omega
      obtain ⟨d1, hd1⟩ : ∃ d, s.has key = d := ⟨_, rfl⟩
      obtain ⟨rI, r2, r3, r4, r5⟩ := Ln.remove_tells hI.out key
      have rF := Ln.remove_fit hF.out key
      have rM := (Ln.remove_like s key).most
      obtain ⟨s1, hs1⟩ : ∃ t, s.remove key = t := ⟨_, rfl⟩
      have cRm := hide (fun (w' : World) (L : List SProp) (hw : Holds W w' (IsLn b tb s :: L)) => by
        have c := Ln_Remove hw key d1 hd1
        rw [hs1] at c
        exact c)
      rw [hs1] at rI r2 r3 r4 r5 rF rM
      rw [hsm.out] at rM
      obtain ⟨ln1, hln1⟩ : ∃ x, s1.len = x := ⟨_, rfl⟩
      obtain ⟨rm, hrm⟩ : ∃ x, decide (ln1 < m) = x := ⟨_, rfl⟩
      obtain ⟨a1, a2, a3, a4⟩ := Ln.adopt_tells rI key r2 r3
      have aF := Ln.adopt_fit rF key
      have aM := (Ln.adopt_like s1 key).most
      rw [rM, hln1] at a2 a3
      rw [hrm] at a2 a3
      obtain ⟨⟨s2, d2⟩, hs2⟩ : ∃ t, s1.adopt key = t := ⟨_, rfl⟩
      have cAd := hide (fun (w' : World) (L : List SProp) (hw : Holds W w' (IsLn b tb s1 :: L)) => by
        have c := Ln_Adopt hw key (4 * i) rF (by omega)
        rw [hs2] at c
        exact c)
      rw [hs2] at a1 a2 a3 a4 aF aM
      dsimp only at a1 a2 a3 a4 aF aM
      rw [rM] at aM
      subst a2
      have hT := Ln.resize_tells a1 aF.al q
      obtain ⟨⟨s3, out⟩, hs3⟩ : ∃ t, s2.resize q = t := ⟨_, rfl⟩
      have cRs := hide (fun (w' : World) (L : List SProp) (hw : Holds W w' (IsLn b tb s2 :: L)) => by
        have c := Ln_Resize hw q (by omega) (4 * i + 1) aF (by omega) a1 (by omega)
        rw [hs3] at c
        exact c)
      rw [hs3] at hT
      dsimp only at hT
      obtain ⟨tz, tl, tm, tg, tx⟩ := hT
      obtain ⟨K, hK⟩ : ∃ x, s2.A.keys.length = x := ⟨_, rfl⟩
      obtain ⟨L, hL⟩ : ∃ x, out.length = x := ⟨_, rfl⟩
      obtain ⟨ln3, hln3⟩ : ∃ x, s3.len = x := ⟨_, rfl⟩
      obtain ⟨g1, hg1⟩ : ∃ x, s1.ghosts = x := ⟨_, rfl⟩
      obtain ⟨g2, hg2⟩ : ∃ x, s2.ghosts = x := ⟨_, rfl⟩
      obtain ⟨g3, hg3⟩ : ∃ x, s3.ghosts = x := ⟨_, rfl⟩
      obtain ⟨ks, hks⟩ : ∃ x, s2.A.keys = x := ⟨_, rfl⟩
      obtain ⟨G, hG⟩ : ∃ x, g3.length = x := ⟨_, rfl⟩
      have hK2 : s2.len = K := by rw [← hK]; exact (Pol.len_keys _).symm
      have hKm : K ≤ 1000 := by have := a1.len; rw [← Ln.len_res, hK2, aM] at this; omega
      rw [hg1] at r3
      rw [hg2] at a4
      rw [hg3] at tg tx
      rw [hG] at tg
      rw [hL, hK2] at tz tl
      rw [hln3] at tl
      rw [hks] at hK tx
      have hgl1 : g1.length ≤ 2000000 := by
        rw [← hg1]
        unfold Ln.ghosts
        rw [List.length_append]
        have := rF.ga
        have := rF.gb
        omega
      have hgl2 : g2.length ≤ 2000000 := by
        rw [← hg2]
        unfold Ln.ghosts
        rw [List.length_append]
        have := aF.ga
        have := aF.gb
        omega
      have ghl : ∀ (t : Ln) (g : List ByteArray), t.ghosts = g → g.length ≤ 2000000 → t.GA.length + t.GB.length ≤ 2000000 := fun t g e h => by
        rw [← e] at h
        unfold Ln.ghosts at h
        rw [List.length_append] at h
        exact h
      have cG1 := hide (fun (w' : World) (F : List SProp) (hw : Holds W w' (IsLn b tb s1 :: F)) => by
        have c := Ln_Ghosts hw (ghl _ _ hg1 hgl1)
        rw [hg1] at c
        exact c)
      have cG2 := hide (fun (w' : World) (F : List SProp) (hw : Holds W w' (IsLn b tb s2 :: F)) => by
        have c := Ln_Ghosts hw (ghl _ _ hg2 hgl2)
        rw [hg2] at c
        exact c)
      have cG3 := hide (fun (w' : World) (F : List SProp) (hw : Holds W w' (IsLn b tb s3 :: F)) => by
        have c := Ln_Ghosts hw (ghl _ _ hg3 (by omega))
        rw [hg3] at c
        exact c)
      have cK := hide (fun (w' : World) (F : List SProp) (hw : Holds W w' (IsLn b tb s2 :: F)) => by
        have c := Ln_Keys hw aF.al (by omega)
        rw [hks] at c
        exact c)
      have hgl1 : Hide (g1.length ≤ 10000000) := ⟨by omega⟩
      have hgl2 : Hide (g2.length ≤ 10000000) := ⟨by omega⟩
      have hgl3 : Hide (g3.length ≤ 10000000) := ⟨by omega⟩
      have hksl : Hide (ks.length ≤ 10000000) := ⟨by omega⟩
      have r3 := hide (decide_eq_false r3)
      have a4 := hide (decide_eq_false a4)
      have hlm1 : s1.len < 1000000 := by omega
      have hlm3 : s3.len < 1000000 := by omega
      have e4 : d1 = true → IntKind.i64.wrap ((ln : Int) - 1) = (ln1 : Int) := fun e => by
        have := r4 (hd1.trans e)
        rw [IntWalk.i64_in _ (by omega)]
        omega
      replace e4 := hide e4
      have f2 : decide ((ln1 : Int) < (m : Int)) = d2 := by rw [← hrm]; exact decide_eq_decide.2 (by omega)
      have f3 : IntKind.i64.wrap ((K : Int) - (q : Int)) = (K : Int) - (q : Int) := IntWalk.i64_in _ (by omega)
      have f4 : max (0 : Int) ((K : Int) - (q : Int)) = (L : Int) := by omega
      have f5 : IntKind.i64.wrap ((K : Int) - (L : Int)) = (ln3 : Int) := by rw [IntWalk.i64_in _ (by omega)]; omega
      have f6 : IntKind.i64.wrap (2 * (q : Int)) = 2 * (q : Int) := IntWalk.i64_in _ (by omega)
      have f7 : decide (2 * (q : Int) < (G : Int)) = false := decide_eq_false (by omega)
      have f8 : Hide (L ≤ 1000) := ⟨by omega⟩
      replace hln := hide hln
      replace hd1 := hide hd1
      replace hs1 := hide hs1
      replace r2 := hide r2
      replace hln1 := hide hln1
      replace a3 := hide a3
      replace hs2 := hide hs2
      replace hs3 := hide hs3
      replace tx := hide tx
      replace tm := hide tm
      replace hK := hide hK
      replace hL := hide hL
      replace hln3 := hide hln3
      replace hg1 := hide hg1
      replace hg2 := hide hg2
      replace hg3 := hide hg3
      replace hks := hide hks
      replace hG := hide hG
      replace hlm := hide hlm
      replace hlm1 := hide hlm1
      replace hlm3 := hide hlm3
      clear rI r4 r5 rF rM a1 aF aM tz tl tg hK2 hKm ghl hmo hqo hlt hin
      go_upto_region 17 with (first
        | (go_at_call 25; (with_reducible refine (Ln_Has h3.out key d1 hd1.out).mono ?_); rintro r w4 ⟨rfl, k4⟩; have h4 := hide (h3.out.keep k4))
        | (go_at_call 18; (with_reducible refine (Ln_Len h4.out ln hln.out hlm.out).mono ?_); rintro r w5 ⟨rfl, dn, rfl⟩; have h5 := hide (h4.out.drewN (n := dn))))
      go_cut [117] (fun v wx => v = .bool false ∧ Holds W wx (IsLn b tb s1 :: []))
      case first =>
        cases d1
        · go_wp2_with (first
            | (go_at_call 22; (with_reducible refine (cRm.out _ _ h5.out).mono ?_); rintro r w6 ⟨rfl, h6⟩; have h6 := hide h6)
            | (go_at_call 25; (with_reducible refine (Ln_Has h6.out key false r2.out).mono ?_); rintro r w7 ⟨rfl, k7⟩; have h7 := hide (h6.out.keep k7))
            | (go_at_call 16; (with_reducible refine (cG1.out _ _ h7.out).mono ?_); rintro r w8 ⟨v8, rfl, h8⟩; have h8 := hide h8)
            | (go_at_call 15; (with_reducible refine (Ref3_Has (Holds.strsAt h8.out) hgl1.out key false r3.out).mono ?_); rintro r w9 ⟨rfl, rfl⟩))
          go_meet
          case rel => exact ⟨rfl, h8.out.drop⟩
        · replace e4 := e4.out rfl
          go_wp2_with (first
            | (go_at_call 22; (with_reducible refine (cRm.out _ _ h5.out).mono ?_); rintro r w6 ⟨rfl, h6⟩; have h6 := hide h6)
            | (go_at_call 25; (with_reducible refine (Ln_Has h6.out key false r2.out).mono ?_); rintro r w7 ⟨rfl, k7⟩; have h7 := hide (h6.out.keep k7))
            | (go_at_call 16; (with_reducible refine (cG1.out _ _ h7.out).mono ?_); rintro r w8 ⟨v8, rfl, h8⟩; have h8 := hide h8)
            | (go_at_call 15; (with_reducible refine (Ref3_Has (Holds.strsAt h8.out) hgl1.out key false r3.out).mono ?_); rintro r w9 ⟨rfl, rfl⟩)
            | (go_at_call 18; (with_reducible refine (Ln_Len (Holds.p1 h8.out) ln1 hln1.out hlm1.out).mono ?_); rintro r w10 ⟨rfl, dn2, rfl⟩; have h9 := hide ((Holds.p1 h8.out).drewN (n := dn2))))
          go_meet
          case rel => first | exact ⟨rfl, h9.out.p1.drop⟩ | exact ⟨rfl, h8.out.drop⟩
      case rest =>
        obtain ⟨rfl, hc⟩ := hcut
        have hc := hide hc
        clear h3 cx cRm cG1 e4
        go_upto_region 20 with (go_at_call 18; (with_reducible refine (Ln_Len hc.out ln1 hln1.out hlm1.out).mono ?_); rintro r w5 ⟨rfl, dn, rfl⟩; have h5 := hide (hc.out.drewN (n := dn)))
        go_cut [139] (fun v wx => v = .bool false ∧ Holds W wx (IsLn b tb s2 :: []))
        case first =>
          cases d2
          all_goals
            go_wp2_with (first
              | (go_at_call 23; (with_reducible refine (cAd.out _ _ h5.out).mono ?_); rintro r w6 ⟨rfl, h6⟩; have h6 := hide h6)
              | (go_at_call 25; (with_reducible refine (Ln_Has h6.out key _ a3.out).mono ?_); rintro r w7 ⟨rfl, k7⟩; have h7 := hide (h6.out.keep k7))
              | (go_at_call 16; (with_reducible refine (cG2.out _ _ h7.out).mono ?_); rintro r w8 ⟨v8, rfl, h8⟩; have h8 := hide h8)
              | (go_at_call 15; (with_reducible refine (Ref3_Has (Holds.strsAt h8.out) hgl2.out key false a4.out).mono ?_); rintro r w9 ⟨rfl, rfl⟩))
            go_meet
            case rel => exact ⟨rfl, h8.out.drop⟩
        case rest =>
          obtain ⟨rfl, hc⟩ := hcut
          have hc := hide hc
          clear cAd cG2 a3 a4 f2
          go_wp2_with (first
            | (go_at_call 20; (with_reducible refine (cK.out _ _ hc.out).mono ?_); rintro r w6 ⟨v6, rfl, h6⟩; obtain ⟨a6, c6, hv6⟩ := (Holds.strsAt h6).shape; rw [strs_length, hK.out] at hv6; subst hv6; have h6 := hide h6)
            | (go_at_call 27; (with_reducible refine (cRs.out _ _ (Holds.p1 h6.out)).mono ?_); rintro r w7 ⟨v7, rfl, h7⟩; obtain ⟨a7, c7, hv7⟩ := (Holds.strsAt h7).shape; rw [strs_length, hL.out] at hv7; subst hv7; have h7 := hide h7)
            | (go_at_call 18; (with_reducible refine (Ln_Len (Holds.p1 h7.out) ln3 hln3.out hlm3.out).mono ?_); rintro r w8 ⟨rfl, dn, rfl⟩; have h8 := hide ((Holds.p1 h7.out).drewN (n := dn)))
            | (go_at_call 28; (with_reducible refine (Ln_Most h8.out q tm.out).mono ?_); rintro r w9 ⟨rfl, rfl⟩)
            | (go_at_call 16; (with_reducible refine (cG3.out _ _ h8.out).mono ?_); rintro r w10 ⟨v10, rfl, h10⟩; obtain ⟨a10, c10, hv10⟩ := (Holds.strsAt h10).shape; rw [strs_length, hG.out] at hv10; subst hv10; have h10 := hide h10))
          replace f8 := f8.out
          clear hc cK cRs f3 f4 f5 f6 f7
          go_loopg [20] (L) (fun c x wr => ∃ j, Hide (L - j = c) ∧ j ≤ L ∧ x = .int .i64 (j : Nat) ∧ Holds W wr (OwnStrs (.slice a7 L c7) out :: OwnStrs (.slice a6 K c6) ks :: IsLn b tb s3 :: []))
          case atStart => exact ⟨0, ⟨rfl⟩, Nat.zero_le _, rfl, h10.out.drop.p2.p2⟩
          case round =>
            clear h6 h7 h8 h10
            obtain ⟨j, hcj, hjn, rfl, hh⟩ := hrel
            have h3 := hide hh
            clear hh
            by_cases hjl : j < L
            · have hjl' : (j : Int) < L := by omega
              have e2 : IntKind.i64.wrap ((j : Int) + 1) = ((j + 1 : Nat) : Int) := by rw [IntWalk.i64_in _ (by omega)]; omega
              obtain ⟨y, hy⟩ : ∃ x, out[j]? = some x := ⟨_, List.getElem?_eq_getElem (by rw [hL.out]; exact hjl)⟩
              obtain ⟨bo, oo, hao, cy⟩ := RowAt.strCell (Holds.strsAt h3.out) hy
              subst hao
              obtain ⟨y1, y2, y3⟩ := tx.out y (List.mem_of_getElem? hy)
              have S0 := hide cy
              replace hy := hide hy
              replace y1 := hide y1
              have y2 := hide (decide_eq_true y2)
              have y3 := hide (decide_eq_false y3)
              clear f8
              go_wp2
              go_region_held3 (fun w' => w'.cell? ⟨bo, oo + j, none⟩ = some (.string y)) (first | exact S0.out | exact S2.out | exact S1.out)
                ((first
                  | (go_at_call 25; (with_reducible refine (Ln_Has (Holds.p2 h3.out.drew) y false y1.out).mono ?_); rintro r2 w5 ⟨rfl, k5⟩; have S1 := hide (k5.cell S0.out); have h5 := hide (h3.out.drew.keep k5))
                  | (go_at_call 15; (with_reducible refine (Ref3_Has (Holds.strsAt (Holds.p1 h5.out)) hksl.out y true y2.out).mono ?_); rintro r3 w6 ⟨rfl, rfl⟩)
                  | (go_at_call 16; (with_reducible refine (cG3.out _ _ (Holds.p2 h5.out)).mono ?_); rintro r4 w7 ⟨v7, rfl, h7⟩; have S2 := hide (RowAt.strCellAt (Holds.strsAt (Holds.p2 h7)) hy.out); have h7 := hide h7)
                  | (go_at_call 15; (with_reducible refine (Ref3_Has (Holds.strsAt h7.out) hgl3.out y false y3.out).mono ?_); rintro r5 w8 ⟨rfl, rfl⟩)))
              all_goals
                go_wp2
                go_roundg (L - (j + 1))
                case measure => rw [← hcj.out]; omega
                case rel => exact ⟨j + 1, ⟨rfl⟩, by omega, rfl, h7.out.drop.p2.p2⟩
            · obtain rfl : j = L := by omega
              have hjl' : ¬ (j : Int) < j := by omega
              clear f8
              go_wp2
              go_ret
              exact ⟨rfl, h3.out.nil⟩
end Go.Proofs.YteledfiechbhgaaGreatDoor
