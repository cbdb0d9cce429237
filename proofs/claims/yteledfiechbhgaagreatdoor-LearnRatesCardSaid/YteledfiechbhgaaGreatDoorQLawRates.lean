/- The law LearnRates: its walk. -/
import Derived.Test.YteledfiechbhgaaGreatDoorQAwake10
import Derived.Test.YteledfiechbhgaaGreatDoorQTwRates
import Derived.Test.YteledfiechbhgaaGreatDoorQRefs10
import Derived.Deep.DeepCutAuto
namespace Go.Proofs.YteledfiechbhgaaGreatDoor
open Go Go.RowKit

theorem RowR.strCell {w : World} {ao : Option Addr} {n cap : Nat} {l : List ByteArray} (h : RowR w (.slice ao n cap) (strs l)) {i : Nat} {x : ByteArray} (hx : l[i]? = some x) : ∃ b off, ao = some ⟨b, off, none⟩ ∧ w.cell? ⟨b, off + i, none⟩ = some (.string x) := by
  rcases h with (⟨_, hnil⟩ | ⟨b, off, cap2, hv, _, _, hcell⟩) | ⟨hnil, _⟩
  · have : l = [] := List.length_eq_zero_iff.1 (by have := congrArg List.length hnil; rwa [strs_length] at this)
    rw [this] at hx
    simp at hx
  · cases hv
    exact ⟨b, off, rfl, hcell i _ (strs_get? hx)⟩
  · have : l = [] := List.length_eq_zero_iff.1 (by have := congrArg List.length hnil; rwa [strs_length] at this)
    rw [this] at hx
    simp at hx
set_option maxRecDepth 100000
set_option maxHeartbeats 4000000
theorem walk_LearnRates (kind most : Int) (vl vk : Value) (lane : List Nat) (keys : List ByteArray) (W : World) (hE : Env W) (hl : RowR W vl (nums64 lane)) (hll : ∀ x ∈ lane, x < 18446744073709551616) (hk : RowR W vk (strs keys)) :
    Calls Tryz.prog 5 #[.int .i64 kind, .int .i64 most, vl, vk] W fun e w' => e = .returned (.bool true) ∧ Holds W w' [] := by
  have hE := hide hE
  obtain ⟨al, cl, hvl⟩ := hl.shape
  obtain ⟨ak, ck, hvk⟩ := hk.shape
  rw [nums64_length] at hvl
  rw [strs_length] at hvk
  subst hvl
  subst hvk
  obtain ⟨N, hN⟩ : ∃ N, lane.length = N := ⟨_, rfl⟩
  obtain ⟨n, hn⟩ : ∃ n, keys.length = n := ⟨_, rfl⟩
  rw [hN] at hl ⊢
  rw [hn] at hk ⊢
  replace hN := hide hN
  replace hn := hide hn
  replace hl := hide hl
  replace hk := hide hk
  replace hll := hide hll
  have h0 := hide (Holds.start W)
  by_cases g1 : 200 < n
  · have g1' : (200 : Int) < n := by omega
    go_enter Tryz.func5, Tryz.ntmps5
    go_wp2_with (go_at_call 11; (with_reducible refine (awake10 W hE.out).mono ?_); rintro r w1 ⟨rfl, k1⟩)
    go_ret
    exact ⟨rfl, h0.out.keep k1⟩
  have g1' : ¬ (200 : Int) < n := by omega
  by_cases g2 : 300 < N
  · have g2' : (300 : Int) < N := by omega
    go_enter Tryz.func5, Tryz.ntmps5
    go_wp2_with (go_at_call 11; (with_reducible refine (awake10 W hE.out).mono ?_); rintro r w1 ⟨rfl, k1⟩)
    go_ret
    exact ⟨rfl, h0.out.keep k1⟩
  have g2' : ¬ (300 : Int) < N := by omega
  by_cases g3 : kind < 5
  · go_enter Tryz.func5, Tryz.ntmps5
    go_wp2_with (go_at_call 11; (with_reducible refine (awake10 W hE.out).mono ?_); rintro r w1 ⟨rfl, k1⟩)
    go_ret
    exact ⟨rfl, h0.out.keep k1⟩
  by_cases g4 : 6 < kind
  · go_enter Tryz.func5, Tryz.ntmps5
    go_wp2_with (go_at_call 11; (with_reducible refine (awake10 W hE.out).mono ?_); rintro r w1 ⟨rfl, k1⟩)
    go_ret
    exact ⟨rfl, h0.out.keep k1⟩
  by_cases g5 : most < 1
  · go_enter Tryz.func5, Tryz.ntmps5
    go_wp2_with (go_at_call 11; (with_reducible refine (awake10 W hE.out).mono ?_); rintro r w1 ⟨rfl, k1⟩)
    go_ret
    exact ⟨rfl, h0.out.keep k1⟩
  by_cases g6 : 1000 < most
  · go_enter Tryz.func5, Tryz.ntmps5
    go_wp2_with (go_at_call 11; (with_reducible refine (awake10 W hE.out).mono ?_); rintro r w1 ⟨rfl, k1⟩)
    go_ret
    exact ⟨rfl, h0.out.keep k1⟩
  obtain ⟨m, rfl⟩ : ∃ m : Nat, most = m := ⟨most.toNat, by omega⟩
  have hk56 : Hide (kind = 5 ∨ kind = 6) := ⟨by omega⟩
  have hm : Hide (0 < m ∧ m ≤ 1000) := ⟨by omega⟩
  have hNl : Hide (lane.length ≤ 300) := ⟨by rw [hN.out]; omega⟩
  have hnl : Hide (n ≤ 200) := ⟨by omega⟩
  go_enter Tryz.func5, Tryz.ntmps5
  go_wp2_with (first
    | (go_at_call 11; (with_reducible refine (awake10 W hE.out).mono ?_); rintro r w1 ⟨rfl, k1⟩; have k1 := hide k1)
    | (go_at_call 12; (with_reducible refine (Made kind hk56.out m (by have := hm.out; omega) _ lane (by have := hNl.out; omega) (fun wx hx => hl.out.keep hx.toKeep) (h0.out.keep k1.out)).mono ?_); rintro r w2 ⟨b, tb, rfl, h2⟩; have h2 := hide h2)
    | (go_at_call 19; (with_reducible refine (Ln_Rate h2.out 2075258708292324556 rfl).mono ?_); rintro r w3 ⟨rfl, rfl⟩))
  have hF0 := hide (Ln.new_fit kind m [lane] 0 (by intro l hl x hx; rw [List.mem_singleton] at hl; subst hl; exact hll.out x hx))
  have hR0 := hide (Rates.new kind m [lane] (by intro l hl x hx; rw [List.mem_singleton] at hl; subst hl; exact hll.out x hx))
  clear g1 g2 g3 g4 g5 g6 g1' g2'
  go_loopg [11] (n) (fun c x wr => ∃ i s, Hide (n - i = c) ∧ i ≤ n ∧ x = .int .i64 (i : Nat) ∧ Rates kind m i s ∧ (kind = 5 → s.rate = 2075258708292324556) ∧ s.Fit (4 * i) ∧ Holds W wr (IsLn b tb s :: IsTape tb s.tape :: []))
  case atStart => exact ⟨0, Ln.new kind m [lane] 0, ⟨rfl⟩, Nat.zero_le _, rfl, hR0.out, fun _ => rfl, hF0.out, h2.out⟩
  case round =>
    clear h2 hF0 hR0
    obtain ⟨i, s, hci, hin, rfl, hR, hS, hF, hh⟩ := hrel
    have h3 := hide hh
    have hkW := hide (RowR.keep hk.out hh.toKeep)
    clear hh
    by_cases hlt : i < n
    · have hlt' : (i : Int) < n := by omega
      have hnl2 := hnl.out
      have e1 : IntKind.i64.wrap ((i : Int) + 1) = ((i + 1 : Nat) : Int) := by rw [IntWalk.i64_in _ (by omega)]; omega
      obtain ⟨key, hx⟩ : ∃ x, keys[i]? = some x := ⟨_, List.getElem?_eq_getElem (by rw [hn.out]; exact hlt)⟩
      obtain ⟨bk, ok, hak, cx⟩ := RowR.strCell hkW.out hx
      subst hak
      replace hx := hide hx
      by_cases hks : 200 < key.size
      · have hks' : (200 : Int) < key.size := by omega
        clear hks
        go_wp2
        go_ret
        exact ⟨rfl, h3.out.nil⟩
      · have hks' : ¬ (200 : Int) < key.size := by omega
        clear hks
        obtain ⟨s', hs'⟩ : ∃ s', (s.req key).1 = s' := ⟨_, rfl⟩
        obtain ⟨r, hr⟩ : ∃ r, s.rate = r := ⟨_, rfl⟩
        obtain ⟨q, hq⟩ : ∃ q, s'.rate = q := ⟨_, rfl⟩
        have hst := hR.step hk56.out hm.out.1 key
        rw [hs', hr, hq] at hst
        have hR' := hide hst.1
        have hT := hst.2
        have hF' : Hide (s'.Fit (4 * (i + 1))) := ⟨by rw [← hs']; exact Ln.req_fit hF key⟩
        have hrt := hF.rate
        have hqt := hF'.out.rate
        rw [hr] at hrt
        rw [hq] at hqt
        have hsm : Hide (s.most ≤ 16777216) := ⟨by rw [hR.most]; have := hm.out; omega⟩
        have cR := hide (fun w' (hw : Holds W w' (IsLn b tb s :: IsTape tb s.tape :: [])) => by
          have c := Ln_Request hw key (4 * i) hF (by omega) hsm.out
          rw [hs'] at c
          exact c)
        have hS' : Hide (kind = 5 → s'.rate = 2075258708292324556) := ⟨fun h5 => by rw [hq, hT.five h5, ← hr]; exact hS h5⟩
        have hS2 : Hide (kind = 5 → r = 2075258708292324556) := ⟨fun h5 => by rw [← hr]; exact hS h5⟩
        have hrH := hide hr
        have hqH := hide hq
        clear hst hs' hr hq hR hS hF hqt
        go_upto_region 17 with (first
          | (go_at_call 19; (with_reducible refine (Ln_Rate h3.out r hrH.out).mono ?_); rintro r1 w4 ⟨rfl, rfl⟩)
          | (go_at_call 17; (with_reducible refine (cR.out _ h3.out).mono ?_); rintro r2 w5 ⟨rfl, h5⟩; have h5 := hide h5)
          | (go_at_call 19; (with_reducible refine (Ln_Rate h5.out q hqH.out).mono ?_); rintro r3 w6 ⟨rfl, rfl⟩))
        clear cx cR h3
        obtain ⟨rm, hrm⟩ : ∃ rm, (i + 1) % m = rm := ⟨_, rfl⟩
        obtain ⟨dv, hdv⟩ : ∃ dv, (i + 1) / m = dv := ⟨_, rfl⟩
        have ec : (i : Int) + 1 = ((i + 1 : Nat) : Int) := rfl
        have e2 : ((i : Int) + 1) % (m : Int) = (rm : Int) := by rw [ec, ← hrm]; rfl
        have e2t : ((i : Int) + 1).tmod (m : Int) = (rm : Int) := by rw [ec, ← hrm]; rfl
        have e3 : ((i : Int) + 1) / (m : Int) = (dv : Int) := by rw [ec, ← hdv]; rfl
        have e3t : ((i : Int) + 1).tdiv (m : Int) = (dv : Int) := by rw [ec, ← hdv]; rfl
        clear ec
        have hmpos := hm.out
        have e4 : ((m : Int) == 0) = false := by rw [beq_eq_false_iff_ne]; omega
        obtain ⟨r4, hr4⟩ : ∃ r4, r / 4 = r4 := ⟨_, rfl⟩
        obtain ⟨up, hup⟩ : ∃ up, r + r4 = up := ⟨_, rfl⟩
        obtain ⟨dn, hdn⟩ : ∃ dn, r - r4 = dn := ⟨_, rfl⟩
        have e5 : (r : Int).tdiv 4 = (r4 : Int) := by rw [← hr4]; rfl
        have e6 : IntKind.u64.wrap ((r : Int) + (r4 : Int)) = (up : Int) := by rw [IntKind.wrap_u64]; omega
        have e7 : IntKind.u64.wrap ((r : Int) - (r4 : Int)) = (dn : Int) := by rw [IntKind.wrap_u64]; omega
        have e8 : IntKind.u64.wrap (r4 : Int) = (r4 : Int) := by rw [IntKind.wrap_u64]; omega
        have e9 : IntKind.i64.wrap (dv : Int) = (dv : Int) := by rw [← hdv]; exact IntWalk.i64_in _ (by have := Nat.div_le_self (i + 1) m; omega)
        have n1 : ¬ (up : Int) < (r : Int) := by omega
        have n2 : ¬ (r : Int) < (dn : Int) := by omega
        have n1' : decide ((up : Int) < (r : Int)) = false := decide_eq_false n1
        have n2' : decide ((r : Int) < (dn : Int)) = false := decide_eq_false n2
        have hT' : (rm ≠ 0 → kind = 6 → q = r) ∧ (i + 1 = m → kind = 6 → q = r) ∧ (dv < 11 → kind = 6 → (q ≤ up ∧ dn ≤ q) ∨ q = 4611686018427387904) := by
          rw [← hup, ← hdn, ← hr4, ← hrm, ← hdv]
          exact ⟨fun h h6 => hT.inside h6 h, fun h h6 => hT.once h6 h, fun h h6 => hT.part h6 h⟩
        have hT5 := hT.five
        have hrm0 : i + 1 = m → rm = 0 := fun h => by rw [← hrm, h, Nat.mod_self]
        have c1 := Bool.eq_false_or_eq_true ((rm : Int) != 0)
        have c2 := Bool.eq_false_or_eq_true ((i : Int) + 1 == (m : Int))
        have c3 := Bool.eq_false_or_eq_true (decide ((dv : Int) < 11))
        have c1i : ((rm : Int) != 0) = false → rm = 0 := fun h => by rw [bne_eq_false_iff_eq] at h; omega
        have c1j : ((rm : Int) != 0) = true → rm ≠ 0 := fun h => by rw [bne_iff_ne] at h; omega
        have c2i : ((i : Int) + 1 == (m : Int)) = true → i + 1 = m := fun h => by rw [beq_iff_eq] at h; omega
        have c3i : decide ((dv : Int) < 11) = true → dv < 11 := fun h => by have := of_decide_eq_true h; omega
        clear hT hr4 hrm hdv hup hdn hrt
        replace hT' := hide hT'
        replace hrm0 := hide hrm0
        replace c1i := hide c1i
        replace c1j := hide c1j
        replace c2i := hide c2i
        replace c3i := hide c3i
        have c4 := Bool.eq_false_or_eq_true (kind == 5)
        have f2 : (kind == 5) = true → ((q : Int) != 2075258708292324556) = false := fun h => by
          have h5 : kind = 5 := by simpa using h
          rw [hT5 h5, hS2.out h5]
          rfl
        have c4i : (kind == 5) = false → kind = 6 := fun h => by
          rcases hk56.out with h5 | h6
          · rw [h5] at h; cases h
          · exact h6
        replace f2 := hide f2
        replace c4i := hide c4i
        replace hT5 := hide hT5
        go_cut [99] (fun v wx => v = .bool false ∧ Holds W wx (IsLn b tb s' :: IsTape tb s'.tape :: []))
        case first =>
          clear e3 e3t e5 e6 e7 e8 e9 n1 n2 n1' n2' c3
          by_cases hqr : q = r
          · clear hT' hT5 hrm0 c1i c1j c2i c3i
            subst hqr
            rcases c4 with c4 | c4
            · have f3 := f2.out c4
              rcases c1 with c1 | c1 <;> rcases c2 with c2 | c2
              all_goals
                go_wp2
                go_meet
                case rel => exact ⟨rfl, h5.out⟩
            · rcases c1 with c1 | c1 <;> rcases c2 with c2 | c2
              all_goals
                go_wp2
                go_meet
                case rel => exact ⟨rfl, h5.out⟩
          · have hk6 : (kind == 5) = false := by
              rcases c4 with c4 | c4
              · exact absurd (hT5.out (by simpa using c4)) hqr
              · exact c4
            have h6 := c4i.out hk6
            have c1' : ((rm : Int) != 0) = false := by
              rcases c1 with c1 | c1
              · exact absurd (hT'.out.1 (c1j.out c1) h6) hqr
              · exact c1
            have c2' : ((i : Int) + 1 == (m : Int)) = false := by
              rcases c2 with c2 | c2
              · exact absurd (hT'.out.2.1 (c2i.out c2) h6) hqr
              · exact c2
            clear hT' hT5 hrm0 c1i c1j c2i c3i c1 c2 c4 h6 hqr
            go_wp2
            go_meet
            case rel => exact ⟨rfl, h5.out⟩
        case rest =>
          obtain ⟨rfl, hc⟩ := hcut
          have hc := hide hc
          clear h5 c1 c2 c1i c1j c2i hrm0 e2 e2t
          go_upto_region 19 with fail
          go_cut [124] (fun v wx => v = .bool false ∧ Holds W wx (IsLn b tb s' :: IsTape tb s'.tape :: []))
          case first =>
            rcases c3 with c3 | c3
            · by_cases hqr : q = r
              · clear hT' hT5 c3i
                subst hqr
                go_wp2
                go_meet
                case rel => exact ⟨rfl, hc.out⟩
              · have h6 : kind = 6 := by
                  rcases c4 with c4 | c4
                  · exact absurd (hT5.out (by simpa using c4)) hqr
                  · exact c4i.out c4
                have hp := hT'.out.2.2 (c3i.out c3) h6
                clear hT' hT5 c3i c4 h6 hqr n1 n2 n1' n2'
                rcases hp with ⟨p1, p2⟩ | rfl
                · have n1 : ¬ (up : Int) < (q : Int) := by omega
                  have n2 : ¬ (q : Int) < (dn : Int) := by omega
                  have n1' : decide ((up : Int) < (q : Int)) = false := decide_eq_false n1
                  have n2' : decide ((q : Int) < (dn : Int)) = false := decide_eq_false n2
                  clear p1 p2
                  go_wp2
                  go_meet
                  case rel => exact ⟨rfl, hc.out⟩
                · have c5 := Bool.eq_false_or_eq_true (decide ((up : Int) < 4611686018427387904))
                  have c6 := Bool.eq_false_or_eq_true (decide ((4611686018427387904 : Int) < (dn : Int)))
                  rcases c5 with c5 | c5 <;> rcases c6 with c6 | c6
                  all_goals
                    go_wp2
                    go_meet
                    case rel => exact ⟨rfl, hc.out⟩
            · clear hT' hT5 c3i c4 n1 n2 n1' n2'
              go_wp2
              go_meet
              case rel => exact ⟨rfl, hc.out⟩
          case rest =>
            obtain ⟨rfl, hd⟩ := hcut
            have hd := hide hd
            clear hc e3 e3t e5 e6 e7 e8 e9 n1 n2 n1' n2' c3 c4
            go_wp2
            go_roundg (n - (i + 1))
            case measure => rw [← hci.out]; omega
            case rel => exact ⟨i + 1, s', ⟨rfl⟩, by omega, rfl, hR'.out, hS'.out, hF'.out, hd.out⟩
    · obtain rfl : i = n := by omega
      have hlt' : ¬ (i : Int) < i := by omega
      go_wp2
      go_ret
      exact ⟨rfl, h3.out.nil⟩
end Go.Proofs.YteledfiechbhgaaGreatDoor
