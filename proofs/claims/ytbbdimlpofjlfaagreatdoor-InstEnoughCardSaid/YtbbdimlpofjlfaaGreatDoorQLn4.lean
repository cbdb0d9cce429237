/- A learner in memory: what a ghost regrets. -/
import Derived.Test.YtbbdimlpofjlfaaGreatDoorQLn1
namespace Go.Proofs.YtbbdimlpofjlfaaGreatDoor
open Go Go.RowKit

theorem fpart_lt (a b : Int) : fpart a b < 18446744073709551616 := by
  unfold fpart fwhole
  split
  · omega
  · exact fover_lt _ _
theorem fpowL_lt : ∀ (n o x : Nat), o < 18446744073709551616 → fpowL o x n < 18446744073709551616 := by
  intro n
  induction n using Nat.strongRecOn with
  | ind n ih =>
    intro o x ho
    by_cases hn : n = 0
    · subst hn; rw [fpowL_zero]; exact ho
    · rw [fpowL_step _ _ _ hn]
      refine ih (n / 2) (by omega) _ _ ?_
      split
      · exact fmul_lt _ _
      · exact ho
theorem fpow_lt (x : Nat) (n : Int) : fpow x n < 18446744073709551616 := by
  unfold fpow
  split
  · omega
  · exact fpowL_lt _ _ _ (by omega)
theorem part_100 (w : World) : Calls Tryz.prog 66 #[.int .i64 1, .int .i64 100] w fun r w' => r = .returned (.int .u64 46116860184273879) ∧ Keep w w' := Ln_part 1 100 (by omega) (by omega) 46116860184273879 fpart_100 w
theorem part_1000 (w : World) : Calls Tryz.prog 66 #[.int .i64 1, .int .i64 1000] w fun r w' => r = .returned (.int .u64 4611686018427387) ∧ Keep w w' := Ln_part 1 1000 (by omega) (by omega) 4611686018427387 fpart_1000 w
theorem part_45 (w : World) : Calls Tryz.prog 66 #[.int .i64 45, .int .i64 100] w fun r w' => r = .returned (.int .u64 2075258708292324556) ∧ Keep w w' := Ln_part 45 100 (by omega) (by omega) 2075258708292324556 fpart_45 w
theorem share_100 (a b s : Nat) (h : fshare a b 46116860184273879 = s) (hn : ¬ badShare a b 46116860184273879) (ha : a < 18446744073709551616) (hb : b < 18446744073709551616) (w : World) :
    Calls Tryz.prog 331 #[.int .u64 a, .int .u64 b, .int .u64 46116860184273879] w fun r w' => r = .returned (.tuple #[.int .u64 (s : Nat), .nilIface]) ∧ Keep w w' := Share_val a b 46116860184273879 s h hn ha hb (by omega) w
/-- The weights that are shared anew. -/
structure Regret (s : Ln) (k : ByteArray) (t : Int) where
  x : Nat
  age : Nat
  m : Nat
  fall : Nat
  a : Nat
  b : Nat
  v : Nat
  hx : fpart s.most (s.most + 1) = x
  hage : fpow x (s.clock - t) = age
  hm : fmul s.rate age = m
  hfall : ffall m = fall
  ha : (if k ∈ s.GA then fmul s.w fall else s.w) = a
  hb : (if k ∈ s.GA then 4611686018427387904 - s.w else fmul (4611686018427387904 - s.w) fall) = b
  hv : fshare a b 46116860184273879 = v
set_option maxRecDepth 100000
set_option maxHeartbeats 2000000
theorem Ln_regret {g w : World} {b tb : Nat} {s : Ln} {F : List SProp} (h : Holds g w (IsLn b tb s :: F)) (k : ByteArray) (i : Nat) (hf : s.Fit i) (hi : i < 100000) (hmost : s.most ≤ 16777216) :
    Calls Tryz.prog 317 #[.pointer (some ⟨b, 0, none⟩), .string k] w fun r w' => r = .returned (.tuple #[]) ∧ Holds g w' (IsLn b tb (s.regret k) :: F) := by
  replace h := h.isLn
  obtain ⟨p, rfl, h⟩ := h
  obtain ⟨_, c1, _, _, _, _, c6, _, c8⟩ := lnc0 h
  obtain ⟨c9, c10, c11, _⟩ := lnc9 h
  have lk := (Holds.p5 h).lookupOk (t := 148) Tryz.underlying148 Tryz.underlying9 zeroInt k
  obtain ⟨res, hres⟩ : ∃ res, s.regret k = res := ⟨_, rfl⟩
  rw [hres]
  cases hg : s.went.get k with
  | none =>
    have hhas : s.went.has k = false := by
      unfold TMap.get at hg
      rw [Option.map_eq_none_iff, List.find?_eq_none] at hg
      unfold TMap.has
      rw [List.any_eq_false]
      intro q hq
      simpa using hg q hq
    rw [TMap.enc_has, TMap.enc_get, hg, hhas] at lk
    dsimp only [Option.map, Option.getD] at lk
    have hr : Hide (res = s) := ⟨by rw [← hres]; unfold Ln.regret; rw [hg]⟩
    replace h := hide h
    clear hf hi hmost hg hhas hres c1 c6 c9 c10 c11
    go_enter Tryz.func317, Tryz.ntmps317
    go_wp2
    refine bodyPost_ret (results_none rfl _ _ _) rfl ?_
    rw [hr.out]
    exact ⟨rfl, Holds.toLn h.out⟩
  | some t =>
    have hhas : s.went.has k = true := by
      unfold TMap.get at hg
      obtain ⟨q, hq, _⟩ := Option.map_eq_some_iff.1 hg
      unfold TMap.has
      rw [List.any_eq_true]
      exact ⟨q, List.mem_of_find?_eq_some hq, by simpa using List.find?_some hq⟩
    rw [TMap.enc_has, TMap.enc_get, hg, hhas] at lk
    dsimp only [Option.map, Option.getD, encI] at lk
    have ht := hf.went k t hg
    have hcl := hf.clock
    obtain ⟨R⟩ : Nonempty (Regret s k t) := ⟨⟨_, _, _, _, _, _, _, rfl, rfl, rfl, rfl, rfl, rfl, rfl⟩⟩
    have hr : Hide (res = ({ s with w := R.v } : Ln).forget k) := ⟨by
      rw [← hres]
      unfold Ln.regret
      rw [hg]
      dsimp only
      rw [fpart_100]
      show Ln.forget { s with w := fshare _ _ _ } k = _
      rw [← R.hv, ← R.ha, ← R.hb, ← R.hfall, ← R.hm, ← R.hage, ← R.hx]
      rfl⟩
    obtain ⟨da, hda⟩ : ∃ d, decide (k ∈ s.GA) = d := ⟨_, rfl⟩
    have cH := hide (fun w' (kk : Keep w w') => List_Has (Holds.p3 (h.keep kk)) k da hda)
    obtain ⟨x, age, m, fall, a, b2, v, hx, hage, hm, hfall, ha, hb, hv⟩ := R
    dsimp only at hr
    have hxl : x < 18446744073709551616 := by rw [← hx]; exact fpart_lt _ _
    have hagel : age < 18446744073709551616 := by rw [← hage]; exact fpow_lt _ _
    have hml : m < 18446744073709551616 := by rw [← hm]; exact fmul_lt _ _
    have hfl : fall < 18446744073709551616 := by rw [← hfall]; exact fdiv_lt _ _
    have hw := hf.w
    have hrt := hf.rate
    obtain ⟨most, hmo⟩ : ∃ m, s.most = m := ⟨_, rfl⟩
    obtain ⟨W, hW⟩ : ∃ m, s.w = m := ⟨_, rfl⟩
    obtain ⟨rate, hra⟩ : ∃ m, s.rate = m := ⟨_, rfl⟩
    obtain ⟨clock, hc⟩ : ∃ m, s.clock = m := ⟨_, rfl⟩
    rw [hmo] at c1 hx hmost
    rw [hW] at c10 ha hb hw
    rw [hra] at c11 hm hrt
    rw [hc] at c9 hage ht hcl
    obtain ⟨V, hV⟩ : ∃ V, 4611686018427387904 - W = V := ⟨_, rfl⟩
    rw [hV] at hb
    have e1 : IntKind.i64.wrap ((most : Int) + 1) = (most : Int) + 1 := IntWalk.i64_in _ (by omega)
    have e2 : IntKind.i64.wrap (clock - t) = clock - t := IntWalk.i64_in _ (by omega)
    have e3 : IntKind.u64.wrap (4611686018427387904 - (W : Int)) = (V : Int) := by rw [IntKind.wrap_u64]; omega
    have ecast : ((most + 1 : Nat) : Int) = (most : Int) + 1 := by omega
    have cP1 := fun w => Ln_part most (most + 1) (by omega) (by omega) x (by rw [ecast]; exact hx) w
    rw [ecast] at cP1
    replace cP1 := hide cP1
    have cPow := hide (fun w => Pow_val x age (clock - t) hage hxl (by omega) w)
    have cM := hide (fun w => Mul_val rate age m hm (by omega) hagel w)
    have cF := hide (fun w => Fall_val m fall hfall hml w)
    have cP2 := hide part_100
    have cMa := hide (fun w => Mul_val W fall (fmul W fall) rfl (by omega) hfl w)
    have cMb := hide (fun w => Mul_val V fall (fmul V fall) rfl (by omega) hfl w)
    have hbad : ¬ badShare a b2 46116860184273879 := by
      unfold badShare
      rw [← ha, ← hb]
      split <;> omega
    have hal : a < 18446744073709551616 := by rw [← ha]; split; exact fmul_lt _ _; omega
    have hbl : b2 < 18446744073709551616 := by rw [← hb]; split; omega; exact fmul_lt _ _
    have cS := hide (fun w => share_100 a b2 v hv hbad hal hbl w)
    have st := hide (fun w' (kk : Keep w w') => And.intro (kk.cell c1) (kk.cell c9))
    have st2 := hide (fun w' (kk : Keep w w') => And.intro (kk.cell c6) (And.intro (kk.cell c10) (kk.cell c11)))
    have kq := hide (Keep.refl w).drew
    have h := hide h
    clear ecast hf hi hmost hg hhas hres hx hage hm hfall hv hw hrt hcl ht hmo hW hra hc hV hbad hal hbl hxl hagel hml
    cases da with
    | true =>
      rw [if_pos (of_decide_eq_true hda)] at ha hb
      rw [ha] at cMa
      subst hb
      clear cMb hda ha
      go_enter Tryz.func317, Tryz.ntmps317
      go_upto_region 2 with fail
      clear c8 lk
      go_region_held3 (fun w' => w'.cell? ⟨b, 1, none⟩ = some (.int .i64 (most : Nat)) ∧ w'.cell? ⟨b, 9, none⟩ = some (.int .i64 clock)) (exact st.out _ kq.out)
        ((first
          | (go_at_call 66; (with_reducible refine (cP1.out _).mono ?_); rintro r w1 ⟨rfl, k1⟩; replace kq := hide (kq.out.trans k1); clear k1)
          | (go_at_call 328; (with_reducible refine (cPow.out _).mono ?_); rintro r w1 ⟨rfl, k1⟩; replace kq := hide (kq.out.trans k1); clear k1)))
      all_goals
        obtain ⟨c6, c10, c11⟩ := st2.out _ kq.out
        go_upto_region 4 with (first
          | (go_at_call 330; (with_reducible refine (cM.out _).mono ?_); rintro r w1 ⟨rfl, k1⟩; replace kq := hide (kq.out.trans k1); clear k1)
          | (go_at_call 329; (with_reducible refine (cF.out _).mono ?_); rintro r w1 ⟨rfl, k1⟩; replace kq := hide (kq.out.trans k1); clear k1; obtain ⟨c6, c10, c11⟩ := st2.out _ kq.out))
        go_quiet (fail)
        replace kq := hide (kq.out.drewN (n := nq))
        go_wp2_with (first
          | (go_at_call 160; (with_reducible refine (cH.out _ kq.out).mono ?_); rintro r w1 ⟨rfl, rfl⟩)
          | (go_at_call 330; (with_reducible refine (cMa.out _).mono ?_); rintro r w1 ⟨rfl, k1⟩; replace kq := hide (kq.out.trans k1); clear k1)
          | (go_at_call 66; (with_reducible refine (cP2.out _).mono ?_); rintro r w1 ⟨rfl, k1⟩; replace kq := hide (kq.out.trans k1); clear k1)
          | (go_at_call 331; ((with_reducible refine (cS.out _).mono ?_); rintro r w1 ⟨rfl, k1⟩; replace kq := hide (kq.out.trans k1); clear k1; obtain ⟨c6, c10, c11⟩ := st2.out _ kq.out; have f10 := Holds.free (off := 10) (h.out.keep kq.out); have H1 : Hide (Holds g _ (IsLn b p.t { s with w := v } :: F)) := ⟨Holds.toLn ((h.out.keep kq.out).setCell (off := 10) (v := .int .u64 (v : Nat)))⟩))
          | (go_at_call 307; (with_reducible refine (Ln_forget H1.out k).mono ?_); rintro r w1 ⟨rfl, h2⟩; have h2 := hide h2))
        go_end0
        rw [hr.out]
        exact ⟨rfl, h2.out⟩
    | false =>
      rw [if_neg (of_decide_eq_false hda)] at ha hb
      rw [hb] at cMb
      subst ha
      clear cMa hda hb
      go_enter Tryz.func317, Tryz.ntmps317
      go_upto_region 2 with fail
      clear c8 lk
      go_region_held3 (fun w' => w'.cell? ⟨b, 1, none⟩ = some (.int .i64 (most : Nat)) ∧ w'.cell? ⟨b, 9, none⟩ = some (.int .i64 clock)) (exact st.out _ kq.out)
        ((first
          | (go_at_call 66; (with_reducible refine (cP1.out _).mono ?_); rintro r w1 ⟨rfl, k1⟩; replace kq := hide (kq.out.trans k1); clear k1)
          | (go_at_call 328; (with_reducible refine (cPow.out _).mono ?_); rintro r w1 ⟨rfl, k1⟩; replace kq := hide (kq.out.trans k1); clear k1)))
      all_goals
        obtain ⟨c6, c10, c11⟩ := st2.out _ kq.out
        go_upto_region 4 with (first
          | (go_at_call 330; (with_reducible refine (cM.out _).mono ?_); rintro r w1 ⟨rfl, k1⟩; replace kq := hide (kq.out.trans k1); clear k1)
          | (go_at_call 329; (with_reducible refine (cF.out _).mono ?_); rintro r w1 ⟨rfl, k1⟩; replace kq := hide (kq.out.trans k1); clear k1; obtain ⟨c6, c10, c11⟩ := st2.out _ kq.out))
        go_quiet (fail)
        replace kq := hide (kq.out.drewN (n := nq))
        go_wp2_with (first
          | (go_at_call 160; (with_reducible refine (cH.out _ kq.out).mono ?_); rintro r w1 ⟨rfl, rfl⟩)
          | (go_at_call 330; (with_reducible refine (cMb.out _).mono ?_); rintro r w1 ⟨rfl, k1⟩; replace kq := hide (kq.out.trans k1); clear k1)
          | (go_at_call 66; (with_reducible refine (cP2.out _).mono ?_); rintro r w1 ⟨rfl, k1⟩; replace kq := hide (kq.out.trans k1); clear k1)
          | (go_at_call 331; ((with_reducible refine (cS.out _).mono ?_); rintro r w1 ⟨rfl, k1⟩; replace kq := hide (kq.out.trans k1); clear k1; obtain ⟨c6, c10, c11⟩ := st2.out _ kq.out; have f10 := Holds.free (off := 10) (h.out.keep kq.out); have H1 : Hide (Holds g _ (IsLn b p.t { s with w := v } :: F)) := ⟨Holds.toLn ((h.out.keep kq.out).setCell (off := 10) (v := .int .u64 (v : Nat)))⟩))
          | (go_at_call 307; (with_reducible refine (Ln_forget H1.out k).mono ?_); rintro r w1 ⟨rfl, h2⟩; have h2 := hide h2))
        go_end0
        rw [hr.out]
        exact ⟨rfl, h2.out⟩
end Go.Proofs.YtbbdimlpofjlfaaGreatDoor
/- A learner in memory: room is made. -/
namespace Go.Proofs.YtbbdimlpofjlfaaGreatDoor
open Go Go.RowKit

set_option maxRecDepth 100000
set_option maxHeartbeats 2000000
theorem Ln_room {g w : World} {b tb : Nat} {s : Ln} {F : List SProp} (h : Holds g w (IsLn b tb s :: IsTape tb s.tape :: F)) (i : Nat) (hf : s.Fit i) (hi : i < 100000) :
    Calls Tryz.prog 318 #[.pointer (some ⟨b, 0, none⟩)] w fun r w' => r = .returned (.tuple #[.string s.room.2.1, .bool s.room.2.2]) ∧ Holds g w' (IsLn b tb s.room.1 :: IsTape tb s.room.1.tape :: F) := by
  obtain ⟨n, hn⟩ : ∃ n, s.len = n := ⟨_, rfl⟩
  have hln : s.len ≤ i := Pol.len_fit hf.a
  have cL := hide (fun m => Ln_Len (h.drewN (n := m)) n hn (by omega))
  obtain ⟨most, hmo⟩ : ∃ m, s.most = m := ⟨_, rfl⟩
  have h00 := hide h
  replace h := h.isLn
  obtain ⟨p, rfl, h⟩ := h
  obtain ⟨_, c1, c2, c3, _⟩ := lnc0 h
  obtain ⟨_, c10, _⟩ := lnc9 h
  rw [hmo] at c1
  obtain ⟨res, hres⟩ : ∃ res, s.room = res := ⟨_, rfl⟩
  rw [hres]
  by_cases hlt : n < most
  · have hr : Hide (res = (s, bNil, false)) := ⟨by rw [← hres]; unfold Ln.room; rw [if_pos (by rw [hn, hmo]; exact hlt)]⟩
    have f1 : decide ((n : Int) < most) = true := decide_eq_true (by omega)
    have f2 : decide (n < most) = true := decide_eq_true hlt
    clear c2 c3 c10 h hres hf hi hn hmo hln
    go_enter Tryz.func318, Tryz.ntmps318
    go_wp2
    go_quiet ((go_at_call 299; exact Calls.quiet_of (cL.out _)))
    go_wp2
    go_ret2
    rw [hr.out]
    exact ⟨rfl, h00.out.drewN⟩
  · have f1 : decide ((n : Int) < most) = false := decide_eq_false (by omega)
    have f2 : decide (n < most) = false := decide_eq_false hlt
    obtain ⟨W, hW⟩ : ∃ m, s.w = m := ⟨_, rfl⟩
    obtain ⟨lane, hla⟩ : ∃ m, s.lane = m := ⟨_, rfl⟩
    obtain ⟨clock, hcl⟩ : ∃ m, s.clock = m := ⟨_, rfl⟩
    obtain ⟨t, ht⟩ : ∃ t, s.tape = t := ⟨_, rfl⟩
    rw [hW] at c10
    rw [hla] at c3
    have st := hide (fun w' (k : Keep w w') => And.intro (k.cell c2) (And.intro (k.cell c3) (k.cell c10)))
    obtain ⟨dt, hpk⟩ : ∃ d, decide (tHead t lane / 4 < W) = d := ⟨_, rfl⟩
    have hres2 : (if dt = true then
        (Ln.trimA { Ln.gone { s with tape := tNext s.tape s.lane } s.A.victim.1 with GA := kFront s.GA s.A.victim.1, went := s.went.put s.A.victim.1 s.clock }, s.A.victim)
      else
        (Ln.trimB { Ln.gone { s with tape := tNext s.tape s.lane } s.B.victim.1 with GB := kFront s.GB s.B.victim.1, went := s.went.put s.B.victim.1 s.clock }, s.B.victim)) = res := by
      rw [← hres]
      unfold Ln.room
      rw [if_neg (show ¬ s.len < s.most by rw [hn, hmo]; exact hlt)]
      rw [show s.pick = dt by unfold Ln.pick; rw [ht, hla, hW]; exact hpk]
      rfl
    replace hpk := hide hpk
    have hga := hide (show s.GA.length < 900000 by have := hf.ga; omega)
    have hgb := hide (show s.GB.length < 900000 by have := hf.gb; omega)
    rw [ht] at h
    have h0 := hide h
    replace hn := hide hn
    replace hmo := hide hmo
    replace hW := hide hW
    replace hla := hide hla
    replace hcl := hide hcl
    replace ht := hide ht
    clear h hres h00 c2 c3 c10 hf hi hln hlt
    cases dt with
    | true =>
      rw [if_pos rfl] at hres2
      replace hres2 := hres2.symm
      obtain ⟨⟨x, d⟩, hv⟩ : ∃ v, s.A.victim = v := ⟨_, rfl⟩
      rw [hv] at hres2
      have cV := hide (fun w1 t' (hh : Holds g w1 (LnRaw b p s (IsTape p.t t' :: F))) => Pol_Victim (Holds.p1 hh) x d hv)
      replace hres2 := hide hres2
      clear hv
      go_enter Tryz.func318, Tryz.ntmps318
      go_wp2
      go_quiet ((go_at_call 299; exact Calls.quiet_of (cL.out _)))
      have kq := hide ((Keep.refl w).drewN (n := nq)).drew
      go_upto_region 4 with fail
      go_region_held3 (fun w' => w'.cell? ⟨b, 2, none⟩ = some (.pointer (some ⟨p.t, 0, none⟩)) ∧ w'.cell? ⟨b, 3, none⟩ = some (.int .i64 (lane : Nat)) ∧ w'.cell? ⟨b, 10, none⟩ = some (.int .u64 (W : Nat))) (first | exact st.out _ kq.out | exact S2.out)
        ((go_at_call 332; (with_reducible refine (Tape_Pick (Holds.p6 (h0.out.keep kq.out)) lane W true hpk.out).mono ?_); rintro r w1 ⟨rfl, h1⟩; have h1 : Hide (Holds g w1 (LnRaw b p s (IsTape p.t (tNext t lane) :: F))) := ⟨h1.p6.p6.p6.p6.p6.p6⟩; have S2 : Hide (w1.cell? ⟨b, 2, none⟩ = some (.pointer (some ⟨p.t, 0, none⟩)) ∧ w1.cell? ⟨b, 3, none⟩ = some (.int .i64 (lane : Nat)) ∧ w1.cell? ⟨b, 10, none⟩ = some (.int .u64 (W : Nat))) := ⟨by obtain ⟨_, _, a2, a3, _⟩ := lnc0 h1.out; obtain ⟨_, a10, _⟩ := lnc9 h1.out; rw [hla.out] at a3; rw [hW.out] at a10; exact ⟨a2, a3, a10⟩⟩))
      all_goals
        clear S2
        obtain ⟨_, _, _, _, a4, a5, _⟩ := lnc0 h1.out
        go_upto_region 9 with (first
          | (go_at_call 323; (with_reducible refine (cV.out _ _ h1.out).mono ?_); rintro r w2 ⟨rfl, k2⟩; have k2 := hide k2)
          | (go_at_call 311; (with_reducible refine (Ln_gone (Holds.toLn (h1.out.keep k2.out)) x).mono ?_); rintro r w3 ⟨rfl, h3⟩; replace h3 := h3.isLn; obtain ⟨p', hp', h3⟩ := h3; have h3 := hide h3; obtain ⟨_, _, _, _, _, _, y6, y7, _⟩ := lnc0 h3.out)
          | (go_at_call 163; (with_reducible refine (List_Front (Holds.p3 h3.out) x hga.out).mono ?_); rintro r w4 ⟨rfl, h4⟩; have h4 := hide h4))
        have S4 : Hide (∀ w', Keep w4 w' → w'.cell? ⟨b, 8, none⟩ = some (.map (some p'.mp)) ∧ w'.cell? ⟨b, 9, none⟩ = some (.int .i64 clock)) := ⟨fun w' kk => by
          obtain ⟨_, _, _, _, _, _, _, _, a8⟩ := lnd0 (Holds.p1 h4.out)
          obtain ⟨a9, _⟩ := lnd9 (Holds.p1 h4.out)
          rw [show (s.gone x).clock = clock from hcl.out] at a9
          exact ⟨kk.cell a8, kk.cell a9⟩⟩
        have kq4 := hide (Keep.refl w4).drew
        obtain ⟨w5, hup, H5⟩ := (Holds.p5 (Holds.drew h4.out)).updateMap (P := Tryz.prog) (t := 148) Tryz.underlying148 Tryz.underlying9 x (encI clock)
        rw [TMap.enc_put] at H5
        unfold encI at hup
        have H6 : Hide (Holds g w5 (LnRaw b p' { s.gone x with GA := kFront s.GA x, went := s.went.put x clock } (IsTape p.t (tNext t lane) :: F))) := ⟨H5.p5.p2.p5.p5.p5⟩
        have S5 : Hide (w5.cell? ⟨b, 8, none⟩ = some (.map (some p'.mp)) ∧ w5.cell? ⟨b, 9, none⟩ = some (.int .i64 clock)) := ⟨by
          obtain ⟨_, _, _, _, _, _, _, _, a8⟩ := lnc0 H6.out
          obtain ⟨a9, _⟩ := lnc9 H6.out
          rw [show ({ s.gone x with GA := kFront s.GA x, went := s.went.put x clock } : Ln).clock = clock from hcl.out] at a9
          exact ⟨a8, a9⟩⟩
        clear H5
        go_region_held3 (fun w' => w'.cell? ⟨b, 8, none⟩ = some (.map (some p'.mp)) ∧ w'.cell? ⟨b, 9, none⟩ = some (.int .i64 clock)) (first | exact S4.out _ kq4.out | exact S5.out) (fail)
        all_goals
          go_wp2_with (go_at_call 322; (with_reducible refine (Ln_trimA (Holds.toLn H6.out)).mono ?_); rintro r w6 ⟨rfl, h6⟩; have h6 := hide h6)
          go_ret2
          rw [hres2.out]
          refine ⟨rfl, ?_⟩
          have H7 := h6.out
          rw [hp', ← ht.out, ← hla.out, ← hcl.out] at H7
          exact H7
    | false =>
      rw [if_neg (by decide)] at hres2
      replace hres2 := hres2.symm
      obtain ⟨⟨x, d⟩, hv⟩ : ∃ v, s.B.victim = v := ⟨_, rfl⟩
      rw [hv] at hres2
      have cV := hide (fun w1 t' (hh : Holds g w1 (LnRaw b p s (IsTape p.t t' :: F))) => Pol_Victim (Holds.p2 hh) x d hv)
      replace hres2 := hide hres2
      clear hv
      go_enter Tryz.func318, Tryz.ntmps318
      go_wp2
      go_quiet ((go_at_call 299; exact Calls.quiet_of (cL.out _)))
      have kq := hide ((Keep.refl w).drewN (n := nq)).drew
      go_upto_region 4 with fail
      go_region_held3 (fun w' => w'.cell? ⟨b, 2, none⟩ = some (.pointer (some ⟨p.t, 0, none⟩)) ∧ w'.cell? ⟨b, 3, none⟩ = some (.int .i64 (lane : Nat)) ∧ w'.cell? ⟨b, 10, none⟩ = some (.int .u64 (W : Nat))) (first | exact st.out _ kq.out | exact S2.out)
        ((go_at_call 332; (with_reducible refine (Tape_Pick (Holds.p6 (h0.out.keep kq.out)) lane W false hpk.out).mono ?_); rintro r w1 ⟨rfl, h1⟩; have h1 : Hide (Holds g w1 (LnRaw b p s (IsTape p.t (tNext t lane) :: F))) := ⟨h1.p6.p6.p6.p6.p6.p6⟩; have S2 : Hide (w1.cell? ⟨b, 2, none⟩ = some (.pointer (some ⟨p.t, 0, none⟩)) ∧ w1.cell? ⟨b, 3, none⟩ = some (.int .i64 (lane : Nat)) ∧ w1.cell? ⟨b, 10, none⟩ = some (.int .u64 (W : Nat))) := ⟨by obtain ⟨_, _, a2, a3, _⟩ := lnc0 h1.out; obtain ⟨_, a10, _⟩ := lnc9 h1.out; rw [hla.out] at a3; rw [hW.out] at a10; exact ⟨a2, a3, a10⟩⟩))
      all_goals
        clear S2
        obtain ⟨_, _, _, _, a4, a5, _⟩ := lnc0 h1.out
        go_upto_region 9 with (first
          | (go_at_call 323; (with_reducible refine (cV.out _ _ h1.out).mono ?_); rintro r w2 ⟨rfl, k2⟩; have k2 := hide k2)
          | (go_at_call 311; (with_reducible refine (Ln_gone (Holds.toLn (h1.out.keep k2.out)) x).mono ?_); rintro r w3 ⟨rfl, h3⟩; replace h3 := h3.isLn; obtain ⟨p', hp', h3⟩ := h3; have h3 := hide h3; obtain ⟨_, _, _, _, _, _, y6, y7, _⟩ := lnc0 h3.out)
          | (go_at_call 163; (with_reducible refine (List_Front (Holds.p4 h3.out) x hgb.out).mono ?_); rintro r w4 ⟨rfl, h4⟩; have h4 := hide h4))
        have S4 : Hide (∀ w', Keep w4 w' → w'.cell? ⟨b, 8, none⟩ = some (.map (some p'.mp)) ∧ w'.cell? ⟨b, 9, none⟩ = some (.int .i64 clock)) := ⟨fun w' kk => by
          obtain ⟨_, _, _, _, _, _, _, _, a8⟩ := lnd0 (Holds.p1 h4.out)
          obtain ⟨a9, _⟩ := lnd9 (Holds.p1 h4.out)
          rw [show (s.gone x).clock = clock from hcl.out] at a9
          exact ⟨kk.cell a8, kk.cell a9⟩⟩
        have kq4 := hide (Keep.refl w4).drew
        obtain ⟨w5, hup, H5⟩ := (Holds.p5 (Holds.drew h4.out)).updateMap (P := Tryz.prog) (t := 148) Tryz.underlying148 Tryz.underlying9 x (encI clock)
        rw [TMap.enc_put] at H5
        unfold encI at hup
        have H6 : Hide (Holds g w5 (LnRaw b p' { s.gone x with GB := kFront s.GB x, went := s.went.put x clock } (IsTape p.t (tNext t lane) :: F))) := ⟨H5.p1.p5.p5.p5.p5⟩
        have S5 : Hide (w5.cell? ⟨b, 8, none⟩ = some (.map (some p'.mp)) ∧ w5.cell? ⟨b, 9, none⟩ = some (.int .i64 clock)) := ⟨by
          obtain ⟨_, _, _, _, _, _, _, _, a8⟩ := lnc0 H6.out
          obtain ⟨a9, _⟩ := lnc9 H6.out
          rw [show ({ s.gone x with GB := kFront s.GB x, went := s.went.put x clock } : Ln).clock = clock from hcl.out] at a9
          exact ⟨a8, a9⟩⟩
        clear H5
        go_region_held3 (fun w' => w'.cell? ⟨b, 8, none⟩ = some (.map (some p'.mp)) ∧ w'.cell? ⟨b, 9, none⟩ = some (.int .i64 clock)) (first | exact S4.out _ kq4.out | exact S5.out) (fail)
        all_goals
          go_wp2_with (go_at_call 322; (with_reducible refine (Ln_trimB (Holds.toLn H6.out)).mono ?_); rintro r w6 ⟨rfl, h6⟩; have h6 := hide h6)
          go_ret2
          rw [hres2.out]
          refine ⟨rfl, ?_⟩
          have H7 := h6.out
          rw [hp', ← ht.out, ← hla.out, ← hcl.out] at H7
          exact H7
end Go.Proofs.YtbbdimlpofjlfaaGreatDoor
