/- A learner in memory: one request more. -/
import Derived.Test.YtbbdimlpofjlfaaGreatDoorQLn4
namespace Go.Proofs.YtbbdimlpofjlfaaGreatDoor
open Go Go.RowKit

theorem lnFree {g w : World} {b : Nat} {p : LnAd} {s : Ln} {F : List SProp} (h : Holds g w (LnRaw b p s F)) (off : Nat) : w.frozen? ⟨b, off, none⟩ = false := Holds.free h
/-- So far goes each window that ends. -/
def Ln.win0 (s : Ln) : Ln := { s with asked := 0, hits := 0 }
theorem Ln.window_eq (s : Ln) (hk : s.kind = 6) (ha : ¬ s.asked + 1 < s.most) : s.window =
    if s.first then { s.win0 with first := false, last := s.hits }
    else if s.hits = s.last then
      if s.still + 1 = 10 then { s.win0 with still := 0, rate := max 4611686018427387 (tHead s.tape s.lane / 4), tape := tNext s.tape s.lane, first := false, last := s.hits }
      else { s.win0 with still := s.still + 1, first := false, last := s.hits }
    else { s.win0 with still := 0, down := s.down != decide (s.hits < s.last), rate := min (max (if (s.down != decide (s.hits < s.last)) then s.rate - s.rate / 4 else fadd s.rate (s.rate / 4)) 4611686018427387) 4611686018427387904, first := false, last := s.hits } := by
  unfold Ln.window
  dsimp only
  rw [if_neg (by rintro (h | h); exact h hk; exact ha h), fpart_1000]
  unfold Ln.win0 fOne
  (repeat' split) <;> rfl
theorem Ln.window_no (s : Ln) (h : s.kind ≠ 6 ∨ s.asked + 1 < s.most) : s.window = { s with asked := s.asked + 1 } := by
  unfold Ln.window
  dsimp only
  rw [if_pos h]
theorem maxN (a x R : Nat) (h : max a (x / 4) = R) : max (a : Int) ((x : Int) / 4) = (R : Int) := by omega
theorem minmaxN (r a o R : Nat) (h : min (max r a) o = R) : min (max (r : Int) (a : Int)) (o : Int) = (R : Int) := by omega
theorem win0c {g w : World} {b : Nat} {p : LnAd} {s : Ln} {F : List SProp} (h : Holds g w (LnRaw b p s.win0 F)) :
    w.cell? ⟨b, 2, none⟩ = some (.pointer (some ⟨p.t, 0, none⟩)) ∧ w.cell? ⟨b, 3, none⟩ = some (.int .i64 (s.lane : Nat)) ∧ w.cell? ⟨b, 11, none⟩ = some (.int .u64 (s.rate : Nat)) ∧ w.cell? ⟨b, 14, none⟩ = some (.int .i64 s.last) ∧ w.cell? ⟨b, 15, none⟩ = some (.int .i64 s.still) ∧ w.cell? ⟨b, 16, none⟩ = some (.bool s.first) ∧ w.cell? ⟨b, 17, none⟩ = some (.bool s.down) :=
  ⟨Holds.cell h rfl, Holds.cell h rfl, Holds.cell h rfl, Holds.cell h rfl, Holds.cell h rfl, Holds.cell h rfl, Holds.cell h rfl⟩
set_option maxRecDepth 100000
set_option maxHeartbeats 2000000
theorem Ln_window {g w : World} {b tb : Nat} {s : Ln} {F : List SProp} (h : Holds g w (IsLn b tb s :: IsTape tb s.tape :: F)) (i : Nat) (hf : s.Fit i) (hi : i < 100000) :
    Calls Tryz.prog 306 #[.pointer (some ⟨b, 0, none⟩)] w fun r w' => r = .returned (.tuple #[]) ∧ Holds g w' (IsLn b tb s.window :: IsTape tb s.window.tape :: F) := by
  replace h := h.isLn
  obtain ⟨p, rfl, h⟩ := h
  obtain ⟨c0, c1, _⟩ := lnc0 h
  obtain ⟨_, _, _, c12, c13, _⟩ := lnc9 h
  have f12 := lnFree h 12
  have f13 := lnFree h 13
  have ha := hf.asked
  obtain ⟨kind, hk⟩ : ∃ n, s.kind = n := ⟨_, rfl⟩
  obtain ⟨most, hmo⟩ : ∃ n, s.most = n := ⟨_, rfl⟩
  obtain ⟨asked, has⟩ : ∃ n, s.asked = n := ⟨_, rfl⟩
  rw [hk] at c0
  rw [hmo] at c1
  rw [has] at c12 ha
  have e1 : IntKind.i64.wrap (asked + 1) = asked + 1 := IntWalk.i64_in _ (by omega)
  obtain ⟨res, hres⟩ : ∃ res, s.window = res := ⟨_, rfl⟩
  rw [hres]
  by_cases hkn : kind = 6
  · subst hkn
    by_cases hlt : asked + 1 < (most : Int)
    · have hr : Hide (res = { s with asked := asked + 1 }) := ⟨by rw [← hres, Ln.window_no s (.inr (by rw [has, hmo]; exact hlt)), has]⟩
      have g1 : decide (asked + 1 < (most : Int)) = true := decide_eq_true hlt
      replace h := hide h
      clear hf ha has hmo hk hres c13 f13
      go_enter Tryz.func306, Tryz.ntmps306
      go_wp2
      go_quiet (fail)
      go_wp2
      refine bodyPost_ret (results_none rfl _ _ _) rfl ?_
      rw [hr.out]
      exact ⟨rfl, Holds.toLn (s := { s with asked := asked + 1 }) ((h.out.setCell (off := 12) (v := .int .i64 (asked + 1))).drewN)⟩
    · have hwin := s.window_eq hk (by rw [has, hmo]; exact hlt)
      rw [hres] at hwin
      have g1 : decide (asked + 1 < (most : Int)) = false := decide_eq_false hlt
      obtain ⟨hits, hhi⟩ : ∃ n, s.hits = n := ⟨_, rfl⟩
      rw [hhi] at c13 hwin
      have h0 := hide h
      have hsti := hf.still
      have hf2 := hf
      clear h hres hmo has hf
      go_enter Tryz.func306, Tryz.ntmps306
      go_wp2
      go_quiet (fail)
      go_upto_region 11 with (go_at_call 66; (with_reducible refine (part_1000 _).mono ?_); rintro r w5 ⟨rfl, k5⟩)
      have H5 : Hide (Holds g w5 (LnRaw b p s.win0 (IsTape p.t s.tape :: F))) := ⟨Holds.keep (((h0.out.setCell (off := 12) (v := .int .i64 (asked + 1))).drewN.setCell (off := 12) (v := .int .i64 0)).setCell (off := 13) (v := .int .i64 0)) k5⟩
      clear k5 h0 f12 f13 c12 c13 c0 c1
      obtain ⟨c2, c3, c11, c14, c15, c16, c17⟩ := win0c H5.out
      have f11 := lnFree H5.out 11
      have f14 := lnFree H5.out 14
      have f15 := lnFree H5.out 15
      have f16 := lnFree H5.out 16
      have f17 := lnFree H5.out 17
      cases hfi : s.first with
      | true =>
        rw [hfi] at c16
        have hr : Hide (res = { s.win0 with first := false, last := hits }) := ⟨by rw [hwin, if_pos hfi]⟩
        clear hwin hfi c2 c3 c11
        go_wp2
        go_end0
        rw [hr.out]
        exact ⟨rfl, Holds.toLn (s := { s.win0 with first := false, last := hits }) ((H5.out.setCell (off := 16) (v := .bool false)).setCell (off := 14) (v := .int .i64 hits))⟩
      | false =>
        rw [hfi] at c16
        obtain ⟨last, hla⟩ : ∃ n, s.last = n := ⟨_, rfl⟩
        rw [hla] at c14
        by_cases he : hits = last
        · obtain ⟨still, hst⟩ : ∃ n, s.still = n := ⟨_, rfl⟩
          rw [hst] at c15 hsti
          have e2 : IntKind.i64.wrap (still + 1) = still + 1 := IntWalk.i64_in _ (by omega)
          by_cases h10 : still + 1 = 10
          · obtain ⟨lane, hlan⟩ : ∃ n, s.lane = n := ⟨_, rfl⟩
            rw [hlan] at c3
            obtain ⟨x, hx⟩ : ∃ x, tHead s.tape lane = x := ⟨_, rfl⟩
            have hr : Hide (res = { s.win0 with still := 0, rate := max 4611686018427387 (x / 4), tape := tNext s.tape lane, first := false, last := hits }) := ⟨by rw [hwin, if_neg (by rw [hfi]; decide), if_pos (by rw [hla]; exact he), if_pos (by rw [hst]; exact h10), hlan, hx]⟩
            have g4 : (hits == last) = true := by rw [beq_iff_eq]; exact he
            have g5 : (still + 1 == 10) = true := by rw [beq_iff_eq]; exact h10
            obtain ⟨R, hR⟩ : ∃ R, max 4611686018427387 (x / 4) = R := ⟨_, rfl⟩
            rw [hR] at hr
            have g8 : max (4611686018427387 : Int) ((x : Int) / 4) = (R : Int) := maxN 4611686018427387 x R hR
            have H7 := hide ((H5.out.setCell (off := 15) (v := .int .i64 (still + 1))).setCell (off := 15) (v := .int .i64 0))
            have cN := hide (by have c := Tape_Next (Holds.p6 H7.out.drew) lane; rw [hx] at c; exact c)
            clear hwin hfi hst hla he h10 hsti hx hR hlan
            go_upto_region 16 with fail
            go_region_with ((go_at_call 324; (with_reducible refine cN.out.mono ?_); rintro r w6 ⟨rfl, h6⟩; have h6 : Hide (Holds g w6 (LnRaw b p { s.win0 with still := 0 } (IsTape p.t (tNext s.tape lane) :: F))) := ⟨h6.p6.p6.p6.p6.p6.p6⟩; have y11 := (lnc9 h6.out).2.2.1; have y14 := (lnc9 h6.out).2.2.2.2.2.1; have y16 := (lnc9 h6.out).2.2.2.2.2.2.2.1; have z11 := lnFree h6.out 11; have z14 := lnFree h6.out 14; have z16 := lnFree h6.out 16))
            all_goals
              clear g4 g5 cN H5 H7 c2 c3 c11 c14 c15 c16 c17 f11 f14 f15 f16 f17
              go_wp2
              go_end0
              rw [hr.out]
              exact ⟨rfl, Holds.toLn (s := { s.win0 with still := 0, rate := R, tape := tNext s.tape lane, first := false, last := hits }) (((h6.out.setCell (off := 11) (v := .int .u64 (R : Nat))).setCell (off := 16) (v := .bool false)).setCell (off := 14) (v := .int .i64 hits))⟩
          · have g5 : (still + 1 == 10) = false := by rw [beq_eq_false_iff_ne]; exact h10
            have hr : Hide (res = { s.win0 with still := still + 1, first := false, last := hits }) := ⟨by rw [hwin, if_neg (by rw [hfi]; decide), if_pos (by rw [hla]; exact he), if_neg (by rw [hst]; exact h10), hst]⟩
            have g4 : (hits == last) = true := by rw [beq_iff_eq]; exact he
            clear hwin hfi c2 c3 c11 hst hla he h10 hsti
            go_wp2
            go_end0
            rw [hr.out]
            exact ⟨rfl, Holds.toLn (s := { s.win0 with still := still + 1, first := false, last := hits }) (((H5.out.setCell (off := 15) (v := .int .i64 (still + 1))).setCell (off := 16) (v := .bool false)).setCell (off := 14) (v := .int .i64 hits))⟩
        · have g4 : (hits == last) = false := by rw [beq_eq_false_iff_ne]; exact he
          obtain ⟨rate, hra⟩ : ∃ n, s.rate = n := ⟨_, rfl⟩
          obtain ⟨d0, hdn⟩ : ∃ d, s.down = d := ⟨_, rfl⟩
          obtain ⟨lt, hlt2⟩ : ∃ d, decide (hits < s.last) = d := ⟨_, rfl⟩
          rw [hra] at c11
          rw [hdn] at c17
          have hrt := hf2.rate
          rw [hra] at hrt
          have hne := he
          have glt : decide (hits < last) = lt := by rw [← hla]; exact hlt2
          clear hsti
          obtain ⟨q, hq⟩ : ∃ q, rate / 4 = q := ⟨_, rfl⟩
          have e5 : (rate : Int).tdiv 4 = (q : Int) := by rw [← hq]; rfl
          have e7 : (rate : Int) / 4 = (q : Int) := by omega
          have e8 : IntKind.u64.wrap (q : Int) = (q : Int) := by rw [IntKind.wrap_u64]; omega
          cases d0 <;> cases lt
          · have h2 : (s.down != decide (hits < s.last)) = false := by rw [hdn, hlt2]; rfl
            obtain ⟨r1, hr1⟩ : ∃ r, fadd rate (rate / 4) = r := ⟨_, rfl⟩
            obtain ⟨R, hR⟩ : ∃ R, min (max r1 4611686018427387) 4611686018427387904 = R := ⟨_, rfl⟩
            have hr : Hide (res = { s.win0 with still := 0, down := false, rate := R, first := false, last := hits }) := ⟨by rw [hwin, if_neg (by rw [hfi]; decide), if_neg (by rw [hla]; exact hne), h2, hra, ← hR, ← hr1]; rfl⟩
            have g8 : min (max (r1 : Int) 4611686018427387) 4611686018427387904 = (R : Int) := minmaxN r1 4611686018427387 4611686018427387904 R hR
            have H6 := hide ((H5.out.setCell (off := 15) (v := .int .i64 0)).setCell (off := 17) (v := .bool false))
            have hra2 := hide hra
            clear hwin hfi hla he hne hlt2 hdn h2 hR hra hf2
            go_upto_region 6 with fail
            go_cut [41] (fun v wx => v = .pointer (some ⟨b, 0, none⟩) ∧ Holds g wx (LnRaw b p { s.win0 with still := 0, down := false } (IsTape p.t s.tape :: F)))
            case first =>
              go_region_law (fail)
              all_goals
                go_wp2
                go_meet
                case rel => exact ⟨rfl, H6.out.drew⟩
            case rest =>
              obtain ⟨rfl, hc⟩ := hcut
              have HC := hide hc
              clear hc H6 H5 c2 c3 c11 c14 c15 c16 c17 f11 f14 f15 f16 f17 g4 glt
              have c11 : wc.cell? ⟨b, 11, none⟩ = some (.int .u64 (s.rate : Nat)) := (lnc9 HC.out).2.2.1
              have c14 := (lnc9 HC.out).2.2.2.2.2.1
              have c16 := (lnc9 HC.out).2.2.2.2.2.2.2.1
              have c17 : wc.cell? ⟨b, 17, none⟩ = some (.bool false) := (lnc9 HC.out).2.2.2.2.2.2.2.2
              rw [hra2.out] at c11
              have f11 := lnFree HC.out 11
              have f14 := lnFree HC.out 14
              have f16 := lnFree HC.out 16
              have cA := hide (fun w => Add_val rate q r1 (by rw [← hq]; exact hr1) (by omega) (by omega) w)
              have H0 := hide HC.out.drew
              clear hr1 hq hrt
              go_upto_region 9 with fail
              go_region_with ((go_at_call 325; (with_reducible refine (cA.out _).mono ?_); rintro r w6 ⟨rfl, k6⟩; have h6 : Hide (Holds g w6 (LnRaw b p { s.win0 with still := 0, down := false } (IsTape p.t s.tape :: F))) := ⟨H0.out.keep k6⟩; have y11 := (lnc9 h6.out).2.2.1; have y14 := (lnc9 h6.out).2.2.2.2.2.1; have y16 := (lnc9 h6.out).2.2.2.2.2.2.2.1; have z11 := lnFree h6.out 11; have z14 := lnFree h6.out 14; have z16 := lnFree h6.out 16; clear k6))
              all_goals
                go_wp2
                go_end0
                rw [hr.out]
                exact ⟨rfl, Holds.toLn (s := { s.win0 with still := 0, down := false, rate := R, first := false, last := hits }) ((((h6.out.setCell (off := 11) (v := .int .u64 (r1 : Nat))).setCell (off := 11) (v := .int .u64 (R : Nat))).setCell (off := 16) (v := .bool false)).setCell (off := 14) (v := .int .i64 hits))⟩
          · have h2 : (s.down != decide (hits < s.last)) = true := by rw [hdn, hlt2]; rfl
            obtain ⟨r1, hr1⟩ : ∃ r, rate - rate / 4 = r := ⟨_, rfl⟩
            obtain ⟨R, hR⟩ : ∃ R, min (max r1 4611686018427387) 4611686018427387904 = R := ⟨_, rfl⟩
            have hr : Hide (res = { s.win0 with still := 0, down := true, rate := R, first := false, last := hits }) := ⟨by rw [hwin, if_neg (by rw [hfi]; decide), if_neg (by rw [hla]; exact hne), h2, hra, ← hR, ← hr1]; rfl⟩
            have g8 : min (max (r1 : Int) 4611686018427387) 4611686018427387904 = (R : Int) := minmaxN r1 4611686018427387 4611686018427387904 R hR
            have H6 := hide ((H5.out.setCell (off := 15) (v := .int .i64 0)).setCell (off := 17) (v := .bool true))
            have hra2 := hide hra
            clear hwin hfi hla he hne hlt2 hdn h2 hR hra hf2
            go_upto_region 6 with fail
            go_cut [41] (fun v wx => v = .pointer (some ⟨b, 0, none⟩) ∧ Holds g wx (LnRaw b p { s.win0 with still := 0, down := true } (IsTape p.t s.tape :: F)))
            case first =>
              go_region_law (fail)
              all_goals
                go_wp2
                go_meet
                case rel => exact ⟨rfl, H6.out.drew⟩
            case rest =>
              obtain ⟨rfl, hc⟩ := hcut
              have HC := hide hc
              clear hc H6 H5 c2 c3 c11 c14 c15 c16 c17 f11 f14 f15 f16 f17 g4 glt
              have c11 : wc.cell? ⟨b, 11, none⟩ = some (.int .u64 (s.rate : Nat)) := (lnc9 HC.out).2.2.1
              have c14 := (lnc9 HC.out).2.2.2.2.2.1
              have c16 := (lnc9 HC.out).2.2.2.2.2.2.2.1
              have c17 : wc.cell? ⟨b, 17, none⟩ = some (.bool true) := (lnc9 HC.out).2.2.2.2.2.2.2.2
              rw [hra2.out] at c11
              have f11 := lnFree HC.out 11
              have f14 := lnFree HC.out 14
              have f16 := lnFree HC.out 16
              have e6 : IntKind.u64.wrap ((rate : Int) - (q : Int)) = (r1 : Int) := by rw [IntKind.wrap_u64]; omega
              clear hr1 hq hrt
              go_upto_region 8 with fail
              go_region_law (fail)
              all_goals
                go_wp2
                go_end0
                rw [hr.out]
                exact ⟨rfl, Holds.toLn (s := { s.win0 with still := 0, down := true, rate := R, first := false, last := hits }) ((((HC.out.drew.setCell (off := 11) (v := .int .u64 (r1 : Nat))).setCell (off := 11) (v := .int .u64 (R : Nat))).setCell (off := 16) (v := .bool false)).setCell (off := 14) (v := .int .i64 hits))⟩
          · have h2 : (s.down != decide (hits < s.last)) = true := by rw [hdn, hlt2]; rfl
            obtain ⟨r1, hr1⟩ : ∃ r, rate - rate / 4 = r := ⟨_, rfl⟩
            obtain ⟨R, hR⟩ : ∃ R, min (max r1 4611686018427387) 4611686018427387904 = R := ⟨_, rfl⟩
            have hr : Hide (res = { s.win0 with still := 0, down := true, rate := R, first := false, last := hits }) := ⟨by rw [hwin, if_neg (by rw [hfi]; decide), if_neg (by rw [hla]; exact hne), h2, hra, ← hR, ← hr1]; rfl⟩
            have g8 : min (max (r1 : Int) 4611686018427387) 4611686018427387904 = (R : Int) := minmaxN r1 4611686018427387 4611686018427387904 R hR
            have H6 := hide ((H5.out.setCell (off := 15) (v := .int .i64 0)).setCell (off := 17) (v := .bool true))
            have hra2 := hide hra
            clear hwin hfi hla he hne hlt2 hdn h2 hR hra hf2
            go_upto_region 6 with fail
            go_cut [41] (fun v wx => v = .pointer (some ⟨b, 0, none⟩) ∧ Holds g wx (LnRaw b p { s.win0 with still := 0, down := true } (IsTape p.t s.tape :: F)))
            case first =>
              go_region_law (fail)
              all_goals
                go_wp2
                go_meet
                case rel => exact ⟨rfl, H6.out.drew⟩
            case rest =>
              obtain ⟨rfl, hc⟩ := hcut
              have HC := hide hc
              clear hc H6 H5 c2 c3 c11 c14 c15 c16 c17 f11 f14 f15 f16 f17 g4 glt
              have c11 : wc.cell? ⟨b, 11, none⟩ = some (.int .u64 (s.rate : Nat)) := (lnc9 HC.out).2.2.1
              have c14 := (lnc9 HC.out).2.2.2.2.2.1
              have c16 := (lnc9 HC.out).2.2.2.2.2.2.2.1
              have c17 : wc.cell? ⟨b, 17, none⟩ = some (.bool true) := (lnc9 HC.out).2.2.2.2.2.2.2.2
              rw [hra2.out] at c11
              have f11 := lnFree HC.out 11
              have f14 := lnFree HC.out 14
              have f16 := lnFree HC.out 16
              have e6 : IntKind.u64.wrap ((rate : Int) - (q : Int)) = (r1 : Int) := by rw [IntKind.wrap_u64]; omega
              clear hr1 hq hrt
              go_upto_region 8 with fail
              go_region_law (fail)
              all_goals
                go_wp2
                go_end0
                rw [hr.out]
                exact ⟨rfl, Holds.toLn (s := { s.win0 with still := 0, down := true, rate := R, first := false, last := hits }) ((((HC.out.drew.setCell (off := 11) (v := .int .u64 (r1 : Nat))).setCell (off := 11) (v := .int .u64 (R : Nat))).setCell (off := 16) (v := .bool false)).setCell (off := 14) (v := .int .i64 hits))⟩
          · have h2 : (s.down != decide (hits < s.last)) = false := by rw [hdn, hlt2]; rfl
            obtain ⟨r1, hr1⟩ : ∃ r, fadd rate (rate / 4) = r := ⟨_, rfl⟩
            obtain ⟨R, hR⟩ : ∃ R, min (max r1 4611686018427387) 4611686018427387904 = R := ⟨_, rfl⟩
            have hr : Hide (res = { s.win0 with still := 0, down := false, rate := R, first := false, last := hits }) := ⟨by rw [hwin, if_neg (by rw [hfi]; decide), if_neg (by rw [hla]; exact hne), h2, hra, ← hR, ← hr1]; rfl⟩
            have g8 : min (max (r1 : Int) 4611686018427387) 4611686018427387904 = (R : Int) := minmaxN r1 4611686018427387 4611686018427387904 R hR
            have H6 := hide ((H5.out.setCell (off := 15) (v := .int .i64 0)).setCell (off := 17) (v := .bool false))
            have hra2 := hide hra
            clear hwin hfi hla he hne hlt2 hdn h2 hR hra hf2
            go_upto_region 6 with fail
            go_cut [41] (fun v wx => v = .pointer (some ⟨b, 0, none⟩) ∧ Holds g wx (LnRaw b p { s.win0 with still := 0, down := false } (IsTape p.t s.tape :: F)))
            case first =>
              go_region_law (fail)
              all_goals
                go_wp2
                go_meet
                case rel => exact ⟨rfl, H6.out.drew⟩
            case rest =>
              obtain ⟨rfl, hc⟩ := hcut
              have HC := hide hc
              clear hc H6 H5 c2 c3 c11 c14 c15 c16 c17 f11 f14 f15 f16 f17 g4 glt
              have c11 : wc.cell? ⟨b, 11, none⟩ = some (.int .u64 (s.rate : Nat)) := (lnc9 HC.out).2.2.1
              have c14 := (lnc9 HC.out).2.2.2.2.2.1
              have c16 := (lnc9 HC.out).2.2.2.2.2.2.2.1
              have c17 : wc.cell? ⟨b, 17, none⟩ = some (.bool false) := (lnc9 HC.out).2.2.2.2.2.2.2.2
              rw [hra2.out] at c11
              have f11 := lnFree HC.out 11
              have f14 := lnFree HC.out 14
              have f16 := lnFree HC.out 16
              have cA := hide (fun w => Add_val rate q r1 (by rw [← hq]; exact hr1) (by omega) (by omega) w)
              have H0 := hide HC.out.drew
              clear hr1 hq hrt
              go_upto_region 9 with fail
              go_region_with ((go_at_call 325; (with_reducible refine (cA.out _).mono ?_); rintro r w6 ⟨rfl, k6⟩; have h6 : Hide (Holds g w6 (LnRaw b p { s.win0 with still := 0, down := false } (IsTape p.t s.tape :: F))) := ⟨H0.out.keep k6⟩; have y11 := (lnc9 h6.out).2.2.1; have y14 := (lnc9 h6.out).2.2.2.2.2.1; have y16 := (lnc9 h6.out).2.2.2.2.2.2.2.1; have z11 := lnFree h6.out 11; have z14 := lnFree h6.out 14; have z16 := lnFree h6.out 16; clear k6))
              all_goals
                go_wp2
                go_end0
                rw [hr.out]
                exact ⟨rfl, Holds.toLn (s := { s.win0 with still := 0, down := false, rate := R, first := false, last := hits }) ((((h6.out.setCell (off := 11) (v := .int .u64 (r1 : Nat))).setCell (off := 11) (v := .int .u64 (R : Nat))).setCell (off := 16) (v := .bool false)).setCell (off := 14) (v := .int .i64 hits))⟩
  · have hr : Hide (res = { s with asked := asked + 1 }) := ⟨by rw [← hres, Ln.window_no s (.inl (by rw [hk]; exact hkn)), has]⟩
    have g2 : (kind == 6) = false := by rw [beq_eq_false_iff_ne]; exact hkn
    have g3 : (kind != 6) = true := by rw [bne_iff_ne]; exact hkn
    replace h := hide h
    clear hf ha has hmo hk hres c13 f13
    go_enter Tryz.func306, Tryz.ntmps306
    go_wp2
    go_quiet (fail)
    go_wp2
    refine bodyPost_ret (results_none rfl _ _ _) rfl ?_
    rw [hr.out]
    exact ⟨rfl, Holds.toLn (s := { s with asked := asked + 1 }) ((h.out.setCell (off := 12) (v := .int .i64 (asked + 1))).drewN)⟩
end Go.Proofs.YtbbdimlpofjlfaaGreatDoor
