/- A learner in memory: Remove, Adopt, Drop. -/
import Derived.Test.YtbbdimlpofjlfaaGreatDoorQLn4
import Derived.Test.YtbbdimlpofjlfaaGreatDoorQLn6
namespace Go.Proofs.YtbbdimlpofjlfaaGreatDoor
open Go Go.RowKit

set_option maxRecDepth 100000
set_option maxHeartbeats 2000000
theorem Ln_Remove {g w : World} {b tb : Nat} {s : Ln} {F : List SProp} (h : Holds g w (IsLn b tb s :: F)) (k : ByteArray) (d : Bool) (hd : s.has k = d) :
    Calls Tryz.prog 301 #[.pointer (some ⟨b, 0, none⟩), .string k] w fun r w' => r = .returned (.bool d) ∧ Holds g w' (IsLn b tb (s.remove k) :: F) := by
  have cH := hide (Ln_Has h k d hd)
  replace h := hide h
  clear hd
  go_enter Tryz.func301, Tryz.ntmps301
  go_wp2_with (first
    | (go_at_call 296; (with_reducible refine cH.out.mono ?_); rintro r w1 ⟨rfl, h1⟩; have h1 := hide h1)
    | (go_at_call 311; (with_reducible refine (Ln_gone (h.out.keep h1.out) k).mono ?_); rintro r w2 ⟨rfl, h2⟩; have h2 := hide h2)
    | (go_at_call 307; (with_reducible refine (Ln_forget h2.out k).mono ?_); rintro r w3 ⟨rfl, h3⟩; have h3 := hide h3))
  go_ret
  exact ⟨rfl, h3.out⟩
theorem Ln_Drop {g w : World} {b tb : Nat} {s : Ln} {F : List SProp} (h : Holds g w (IsLn b tb s :: F)) (x : ByteArray) (d : Bool) (hx : s.victim = (x, d)) :
    Calls Tryz.prog 294 #[.pointer (some ⟨b, 0, none⟩)] w fun r w' => r = .returned (.tuple #[.string x, .bool d]) ∧ Holds g w' (IsLn b tb s.drop :: F) := by
  have cV := hide (Ln_Victim h x d hx)
  replace h := hide h
  cases d with
  | true =>
    have hr : Hide (s.drop = s.gone x) := ⟨by unfold Ln.drop; rw [hx]; rfl⟩
    clear hx
    go_enter Tryz.func294, Tryz.ntmps294
    go_wp2_with (first
      | (go_at_call 304; (with_reducible refine cV.out.mono ?_); rintro r w1 ⟨rfl, h1⟩; have h1 := hide h1)
      | (go_at_call 311; (with_reducible refine (Ln_gone (h.out.keep h1.out) x).mono ?_); rintro r w2 ⟨rfl, h2⟩; have h2 := hide h2))
    go_ret2
    rw [hr.out]
    exact ⟨rfl, h2.out⟩
  | false =>
    have hr : Hide (s.drop = s) := ⟨by unfold Ln.drop; rw [hx]; rfl⟩
    clear hx
    go_enter Tryz.func294, Tryz.ntmps294
    go_wp2_with (go_at_call 304; (with_reducible refine cV.out.mono ?_); rintro r w1 ⟨rfl, h1⟩; have h1 := hide h1)
    go_ret2
    rw [hr.out]
    exact ⟨rfl, h.out.keep h1.out⟩
/-- Both adopt: by the closure of Adopt. -/
theorem Ln_bothAdopt {g w : World} {b tb kb : Nat} {s : Ln} {k : ByteArray} {F : List SProp} (h : Holds g w (IsLn b tb s :: pts kb (.cells #[.string k] 9) :: F)) (i : Nat) (hf : s.Fit i) (hi : i < 100000) :
    Calls Tryz.prog 308 #[.pointer (some ⟨b, 0, none⟩), .func (.func 309) #[] #[.pointer (some ⟨kb, 0, none⟩)]] w fun r w' => r = .returned (.tuple #[]) ∧ Holds g w' (IsLn b tb (s.adopts k) :: F) := by
  replace h := h.isLn
  obtain ⟨p, rfl, H0⟩ := h
  refine (Ln_both_adopt (s1 := { s with A := (s.A.adopt k).1 }) (s2 := s.adopts k) (kb := kb) H0
    ((adopt_1 (Holds.p1 H0) k (Holds.cell (Holds.p6 H0) rfl) i s.most hf.a hi).mono fun r w' ⟨hr, h1⟩ => ⟨hr, h1.p1⟩)
    (fun w1 H1 => (adopt_1 (Holds.p2 H1) k (Holds.cell (Holds.p6 H1) rfl) i s.most hf.b hi).mono fun r w' ⟨hr, h1⟩ => ⟨hr, h1.p2.p2⟩)).mono ?_
  rintro r w' ⟨hr, h1⟩
  exact ⟨hr, Holds.toLn h1.p6.drop⟩
theorem Ln_bothReq2 {g w : World} {b tb kb : Nat} {s : Ln} {k : ByteArray} {F : List SProp} (h : Holds g w (IsLn b tb s :: pts kb (.cells #[.string k] 9) :: F)) (i : Nat) (hf : s.Fit i) (hi : i < 100000) :
    Calls Tryz.prog 308 #[.pointer (some ⟨b, 0, none⟩), .func (.func 319) #[] #[.pointer (some ⟨kb, 0, none⟩)]] w fun r w' => r = .returned (.tuple #[]) ∧ Holds g w' (IsLn b tb (s.adopts k) :: F) := by
  replace h := h.isLn
  obtain ⟨p, rfl, H0⟩ := h
  refine (Ln_both_req2 (s1 := { s with A := (s.A.adopt k).1 }) (s2 := s.adopts k) (kb := kb) H0
    ((request_2 (Holds.p1 H0) k (Holds.cell (Holds.p6 H0) rfl) i s.most hf.a hi).mono fun r w' ⟨hr, h1⟩ => ⟨hr, h1.p1⟩)
    (fun w1 H1 => (request_2 (Holds.p2 H1) k (Holds.cell (Holds.p6 H1) rfl) i s.most hf.b hi).mono fun r w' ⟨hr, h1⟩ => ⟨hr, h1.p2.p2⟩)).mono ?_
  rintro r w' ⟨hr, h1⟩
  exact ⟨hr, Holds.toLn h1.p6.drop⟩
theorem Ln_bothReq1 {g w : World} {b tb kb : Nat} {s : Ln} {k : ByteArray} {F : List SProp} (h : Holds g w (IsLn b tb s :: pts kb (.cells #[.string k] 9) :: F)) (i : Nat) (hf : s.Fit i) (hi : i < 100000) (hm : s.most ≤ 1000000000) (ha : s.A.has k = true) :
    Calls Tryz.prog 308 #[.pointer (some ⟨b, 0, none⟩), .func (.func 315) #[] #[.pointer (some ⟨kb, 0, none⟩)]] w fun r w' => r = .returned (.tuple #[]) ∧ Holds g w' (IsLn b tb { s with A := (s.A.req k).1, B := (s.B.req k).1 } :: F) := by
  replace h := h.isLn
  obtain ⟨p, rfl, H0⟩ := h
  refine (Ln_both_req1 (s1 := { s with A := (s.A.req k).1 }) (s2 := { s with A := (s.A.req k).1, B := (s.B.req k).1 }) (kb := kb) H0
    ((request_1 (Holds.p1 H0) k (Holds.cell (Holds.p6 H0) rfl) i s.most hf.a hi hm (fun q hq => by rw [hq] at ha; exact ha)).mono fun r w' ⟨hr, h1⟩ => ⟨hr, h1.p1⟩)
    (fun w1 H1 => (request_1 (Holds.p2 H1) k (Holds.cell (Holds.p6 H1) rfl) i s.most hf.b hi hm (fun q hq => absurd hq (hf.bl q))).mono fun r w' ⟨hr, h1⟩ => ⟨hr, h1.p2.p2⟩)).mono ?_
  rintro r w' ⟨hr, h1⟩
  exact ⟨hr, Holds.toLn h1.p6.drop⟩
theorem Ln_Adopt {g w : World} {b tb : Nat} {s : Ln} {F : List SProp} (h : Holds g w (IsLn b tb s :: F)) (k : ByteArray) (i : Nat) (hf : s.Fit i) (hi : i < 100000) :
    Calls Tryz.prog 293 #[.pointer (some ⟨b, 0, none⟩), .string k] w fun r w' => r = .returned (.bool (s.adopt k).2) ∧ Holds g w' (IsLn b tb (s.adopt k).1 :: F) := by
  obtain ⟨d, hd⟩ : ∃ d, s.has k = d := ⟨_, rfl⟩
  obtain ⟨n, hn⟩ : ∃ n, s.len = n := ⟨_, rfl⟩
  obtain ⟨most, hmo⟩ : ∃ n, s.most = n := ⟨_, rfl⟩
  have hln : s.len ≤ i := Pol.len_fit hf.a
  obtain ⟨kb, hkb⟩ : ∃ kb, w.heap.size = kb := ⟨_, rfl⟩
  have HA := (h.alloc (o := .cells #[.string k] 9)).p1
  rw [hkb] at HA
  obtain ⟨W, hW⟩ : ∃ W, w.alloc (.cells #[.string k] 9) = W := ⟨_, rfl⟩
  rw [hW] at HA
  have cH := hide (fun w' (kk : Keep W w') => Ln_Has (HA.keep kk) k d hd)
  have cL := hide (fun w' (kk : Keep W w') => (Ln_Len (HA.keep kk) n hn (by omega)).mono (fun r w2 (hh : r = _ ∧ ∃ m, w2 = w'.drewN m) => (⟨hh.1, by obtain ⟨m, hm⟩ := hh.2; rw [hm]; exact (Keep.refl w').drewN⟩ : r = _ ∧ Keep w' w2)))
  have st := hide (fun w' (kk : Keep W w') => kk.cell (show W.cell? ⟨kb, 0, none⟩ = some (.string k) from Holds.cell (Holds.p1 HA) rfl))
  have st1 : Hide (∀ w', Keep W w' → w'.cell? ⟨b, 1, none⟩ = some (.int .i64 (most : Nat))) := ⟨fun w' kk => by
    have h2 := HA.isLn
    obtain ⟨p, _, h3⟩ := h2
    have c := (lnc0 h3).2.1
    rw [hmo] at c
    exact kk.cell c⟩
  have hmf : ∀ (fn : Fn) (first cap : Array Value) (w : World), (Instr.makeFunc fn first cap).run Tryz.prog w = .ok (.func fn first cap) w := fun _ _ _ _ => rfl
  obtain ⟨res, hres⟩ : ∃ res, Ln.adopt s k = res := ⟨_, rfl⟩
  rw [hres]
  replace HA := hide HA
  replace hf := hide hf
  have kq := hide (Keep.refl W).drew
  clear h hln
  cases d with
  | true =>
    have hr : Hide (res = (s, false)) := ⟨by rw [← hres]; unfold Ln.adopt; rw [if_pos (.inl hd)]⟩
    clear hres hd hn hmo cL
    have c3 := st.out _ (Keep.refl W)
    have uc3 := fun u : KeptOf W => u.cell c3
    go_enter Tryz.func293, Tryz.ntmps293
    go_upto_region 1 with fail
    try simp only [hkb]
    try rw [hW]
    clear hkb hW
    (refine wp_region_kept (by kernel_rfl) (by kernel_rfl) ?_; (repeat (go_big_quiet_step ((go_at_call 296; exact KeptOf.calls (cH.out _ (KeptOf.keep _)))))); refine wpQuiet_nil ?_; intro _ hw'; obtain ⟨uq, hw''⟩ := hw'; subst hw'')
    go_wp2
    go_ret
    rw [hr.out]
    exact ⟨rfl, (HA.out.keep uq.keep).p1.drop⟩
  | false =>
    by_cases hlt : most ≤ n
    · have f1 : decide ((most : Int) ≤ n) = true := decide_eq_true (by omega)
      have f2 : decide (most ≤ n) = true := decide_eq_true hlt
      have hr : Hide (res = (s, false)) := ⟨by rw [← hres]; unfold Ln.adopt; rw [if_pos (.inr (by rw [hmo, hn]; exact hlt))]⟩
      clear hres hd hn hmo hlt
      go_enter Tryz.func293, Tryz.ntmps293
      go_upto_region 1 with fail
      try simp only [hkb]
      try rw [hW]
      clear hkb hW
      go_region_held3 (fun w' => w'.cell? ⟨kb, 0, none⟩ = some (.string k) ∧ w'.cell? ⟨b, 1, none⟩ = some (.int .i64 (most : Nat))) (exact And.intro (st.out _ kq.out) (st1.out _ kq.out))
        ((first
          | (go_at_call 296; (with_reducible refine (cH.out _ kq.out).mono ?_); rintro r w1 ⟨rfl, k1⟩; replace kq := hide (kq.out.trans k1); clear k1)
          | (go_at_call 299; (with_reducible refine (cL.out _ kq.out).mono ?_); rintro r w1 ⟨rfl, k1⟩; replace kq := hide (kq.out.trans k1); clear k1)))
      all_goals
        go_wp2
        go_ret
        rw [hr.out]
        exact ⟨rfl, (HA.out.keep kq.out).p1.drop⟩
    · have f1 : decide ((most : Int) ≤ n) = false := decide_eq_false (by omega)
      have f2 : decide (most ≤ n) = false := decide_eq_false hlt
      have hr : Hide (res = ((s.forget k).adopts k, true)) := ⟨by rw [← hres]; unfold Ln.adopt; rw [if_neg (by rw [hmo, hn, hd]; rintro (h | h); cases h; exact hlt h)]⟩
      clear hres hd hn hmo hlt
      go_enter Tryz.func293, Tryz.ntmps293
      go_upto_region 1 with fail
      try simp only [hkb]
      try rw [hW]
      clear hkb hW
      go_region_held3 (fun w' => w'.cell? ⟨kb, 0, none⟩ = some (.string k) ∧ w'.cell? ⟨b, 1, none⟩ = some (.int .i64 (most : Nat))) (exact And.intro (st.out _ kq.out) (st1.out _ kq.out))
        ((first
          | (go_at_call 296; (with_reducible refine (cH.out _ kq.out).mono ?_); rintro r w1 ⟨rfl, k1⟩; replace kq := hide (kq.out.trans k1); clear k1)
          | (go_at_call 299; (with_reducible refine (cL.out _ kq.out).mono ?_); rintro r w1 ⟨rfl, k1⟩; replace kq := hide (kq.out.trans k1); clear k1)))
      all_goals
        have c3 := st.out _ kq.out
        go_wp2_with (first
          | (go_at_call 307; (with_reducible refine (Ln_forget (HA.out.keep kq.out) k).mono ?_); rintro r w2 ⟨rfl, h2⟩; have h2 := hide h2)
          | (go_at_call 308; (with_reducible refine (Ln_bothAdopt h2.out i (Ln.forget_fit hf.out k) hi).mono ?_); rintro r w3 ⟨rfl, h3⟩; have h3 := hide h3))
        go_ret
        rw [hr.out]
        exact ⟨rfl, h3.out⟩
end Go.Proofs.YtbbdimlpofjlfaaGreatDoor
/- A learner in memory: Request. -/
namespace Go.Proofs.YtbbdimlpofjlfaaGreatDoor
open Go Go.RowKit

set_option maxRecDepth 100000
set_option maxHeartbeats 2000000
/-- The cells of a learner, at a moment. -/
theorem lnBit {g w : World} {b tb : Nat} {s : Ln} {F : List SProp} (h : Holds g w (IsLn b tb s :: F)) :
    w.cell? ⟨b, 1, none⟩ = some (.int .i64 (s.most : Nat)) ∧ w.cell? ⟨b, 9, none⟩ = some (.int .i64 s.clock) ∧ w.cell? ⟨b, 13, none⟩ = some (.int .i64 s.hits) ∧ w.frozen? ⟨b, 9, none⟩ = false ∧ w.frozen? ⟨b, 13, none⟩ = false := by
  obtain ⟨p, _, h⟩ := h.isLn
  exact ⟨(lnc0 h).2.1, (lnc9 h).1, (lnc9 h).2.2.2.2.1, lnFree h 9, lnFree h 13⟩
theorem lnClock {g w : World} {b tb : Nat} {s : Ln} {F : List SProp} (h : Holds g w (IsLn b tb s :: F)) (n : Int) : Holds g (w.setCell ⟨b, 9, none⟩ (.int .i64 n)) (IsLn b tb { s with clock := n } :: F) := by
  replace h := h.isLn
  obtain ⟨p, rfl, h⟩ := h
  exact Holds.toLn (s := { s with clock := n }) (h.setCell (off := 9) (v := .int .i64 n))
theorem lnHits {g w : World} {b tb : Nat} {s : Ln} {F : List SProp} (h : Holds g w (IsLn b tb s :: F)) (n : Int) : Holds g (w.setCell ⟨b, 13, none⟩ (.int .i64 n)) (IsLn b tb { s with hits := n } :: F) := by
  replace h := h.isLn
  obtain ⟨p, rfl, h⟩ := h
  exact Holds.toLn (s := { s with hits := n }) (h.setCell (off := 13) (v := .int .i64 n))
theorem regret_tape (s : Ln) (k : ByteArray) : (s.regret k).tape = s.tape := by
  unfold Ln.regret
  split <;> rfl
theorem Ln_Request {g w : World} {b tb : Nat} {s : Ln} {F : List SProp} (h : Holds g w (IsLn b tb s :: IsTape tb s.tape :: F)) (k : ByteArray) (i : Nat) (hf : s.Fit i) (hi : i < 90000) (hmost : s.most ≤ 16777216) :
    Calls Tryz.prog 302 #[.pointer (some ⟨b, 0, none⟩), .string k] w fun r w' => r = .returned (stepV (s.req k).2) ∧ Holds g w' (IsLn b tb (s.req k).1 :: IsTape tb (s.req k).1.tape :: F) := by
  obtain ⟨d, hd⟩ : ∃ d, s.has k = d := ⟨_, rfl⟩
  obtain ⟨c, hc⟩ : ∃ c, s.clock = c := ⟨_, rfl⟩
  obtain ⟨s0, hs0⟩ : ∃ s0 : Ln, { s with clock := c + 1 } = s0 := ⟨_, rfl⟩
  have hcl := hf.clock
  rw [hc] at hcl
  have e1 : IntKind.i64.wrap (c + 1) = c + 1 := IntWalk.i64_in _ (by omega)
  have hf0 : Hide (s0.Fit (i + 1)) := ⟨by
    rw [← hs0]
    exact { hf.mono (Nat.le_succ i) with clock := by dsimp only; omega, went := fun x t hx => by have := hf.went x t hx; dsimp only; omega }⟩
  obtain ⟨kb, hkb⟩ : ∃ kb, w.heap.size = kb := ⟨_, rfl⟩
  obtain ⟨r4, hr4⟩ : ∃ r4, kb + 1 = r4 := ⟨_, rfl⟩
  have HA := (h.alloc (o := .cells #[.string k] 9)).alloc (o := .cells #[.bool false, .string ⟨#[]⟩, .bool false] 34)
  simp only [World.size_alloc] at HA
  rw [hkb, hr4] at HA
  obtain ⟨b1, b9, _, g9, _⟩ := lnBit (Holds.p2 HA)
  rw [hc] at b9
  have H1 := lnClock (Holds.p2 HA) (c + 1)
  rw [hs0] at H1
  have H1 := hide H1
  have k0 : Hide ((((w.alloc (.cells #[.string k] 9)).alloc (.cells #[.bool false, .string ⟨#[]⟩, .bool false] 34)).setCell ⟨b, 9, none⟩ (.int .i64 (c + 1))).cell? ⟨kb, 0, none⟩ = some (.string k)) := ⟨Holds.cell (Holds.p2 H1.out) rfl⟩
  obtain ⟨res, hres⟩ : ∃ res, s.req k = res := ⟨_, rfl⟩
  rw [hres]
  have hreq : res = (if s.most = 0 then (s0, ⟨d, bNil, false⟩)
      else if d = true then (Ln.window { s0 with hits := s.hits + 1, A := (s.A.req k).1, B := (s.B.req k).1 }, ⟨true, bNil, false⟩)
      else ((((s0.regret k).room.1.adopts k).window, ⟨false, (s0.regret k).room.2.1, (s0.regret k).room.2.2⟩))) := by
    rw [← hres]
    unfold Ln.req
    dsimp only
    rw [hd, hc, hs0]
    rw [← hs0]
  obtain ⟨most, hmo⟩ : ∃ m, s.most = m := ⟨_, rfl⟩
  rw [hmo] at b1 hreq hmost
  have hs0' : Hide (s0.most = most ∧ s0.has k = d ∧ s0.tape = s.tape ∧ s0.hits = s.hits ∧ s0.A = s.A ∧ s0.B = s.B) := ⟨by rw [← hs0]; exact ⟨hmo, hd, rfl, rfl, rfl, rfl⟩⟩
  replace hreq := hide hreq
  have hmf : ∀ (fn : Fn) (first cap : Array Value) (w : World), (Instr.makeFunc fn first cap).run Tryz.prog w = .ok (.func fn first cap) w := fun _ _ _ _ => rfl
  have hhi := hf.hits
  clear h HA hf hd hc hs0 hcl hres hmo
  have b0 := k0.out
  go_enter Tryz.func302, Tryz.ntmps302
  go_upto_region 3 with (go_at_call 296; (try simp only [hkb, hr4]); (with_reducible refine (Ln_Has H1.out k d hs0'.out.2.1).mono ?_); rintro r w2 ⟨rfl, k2⟩; have k2 := hide k2)
  obtain ⟨r5, hr5⟩ : ∃ r5, w2.heap.size = r5 := ⟨_, rfl⟩
  have HB := (H1.out.keep k2.out).alloc (o := .cells #[.bool d, .string ⟨#[]⟩, .bool false] 34)
  rw [hr5] at HB
  simp only [hr5]
  obtain ⟨W3, hW3⟩ : ∃ W3, w2.alloc (.cells #[.bool d, .string ⟨#[]⟩, .bool false] 34) = W3 := ⟨_, rfl⟩
  rw [hW3] at HB ⊢
  clear hW3 hr5 H1 k2 k0 b0 b1 b9 g9 hr4 hkb
  have HB : Hide (Holds g W3 (IsLn b tb s0 :: IsTape tb s.tape :: pts kb (.cells #[.string k] 9) :: pts r5 (.cells #[.bool d, .string ⟨#[]⟩, .bool false] 34) :: pts r4 (.cells #[.bool false, .string ⟨#[]⟩, .bool false] 34) :: F)) := ⟨HB.p3.p4.p3⟩
  obtain ⟨b1, _, b13, _, g13⟩ := lnBit HB.out
  rw [hs0'.out.1] at b1
  rw [hs0'.out.2.2.2.1] at b13
  have b0 : W3.cell? ⟨kb, 0, none⟩ = some (.string k) := Holds.cell (Holds.p2 HB.out) rfl
  obtain ⟨t0, t1, t2⟩ := cells3 (Holds.p3 HB.out)
  obtain ⟨z0, z1, z2⟩ := cells3 (Holds.p4 HB.out)
  obtain ⟨f0, f1, f2⟩ := free3 (Holds.p4 HB.out)
  by_cases h0 : most = 0
  · subst h0
    have hr : Hide (res = (s0, ⟨d, bNil, false⟩)) := ⟨by rw [hreq.out, if_pos rfl]⟩
    have HR := put3 (Holds.p4 HB.out) (.bool d) (.string ⟨#[]⟩) (.bool false)
    go_wp2
    refine bodyPost_ret (ret_step rfl HR rfl) rfl ?_
    rw [hr.out]
    refine ⟨rfl, ?_⟩
    show Holds g _ (IsLn b tb s0 :: IsTape tb s0.tape :: F)
    rw [hs0'.out.2.2.1]
    exact HR.drop.p2.drop.p2.drop
  · have g0 : ((most : Int) == 0) = false := by rw [beq_eq_false_iff_ne]; omega
    cases d with
    | true =>
      obtain ⟨s1, hs1⟩ : ∃ s1 : Ln, { s0 with hits := s.hits + 1 } = s1 := ⟨_, rfl⟩
      have hr : Hide (res = (Ln.window { s1 with A := (s1.A.req k).1, B := (s1.B.req k).1 }, ⟨true, bNil, false⟩)) := ⟨by rw [hreq.out, if_neg h0, if_pos rfl, ← hs1, ← hs0'.out.2.2.2.2.1, ← hs0'.out.2.2.2.2.2]⟩
      have e2 : IntKind.i64.wrap (s.hits + 1) = s.hits + 1 := IntWalk.i64_in _ (by omega)
      have HH := lnHits HB.out (s.hits + 1)
      rw [hs1] at HH
      have HH := hide HH
      have hf1 : Hide (s1.Fit (i + 2)) := ⟨by rw [← hs1]; exact { hf0.out.mono (by omega) with hits := by dsimp only; omega }⟩
      have hx : Hide (s1.most ≤ 1000000000 ∧ s1.A.has k = true ∧ s1.tape = s.tape) := ⟨by rw [← hs1]; exact ⟨by show s0.most ≤ _; rw [hs0'.out.1]; omega, hs0'.out.2.1, hs0'.out.2.2.1⟩⟩
      have hf2 : Hide (Ln.Fit (i + 3) { s1 with A := (s1.A.req k).1, B := (s1.B.req k).1 }) := ⟨{ hf1.out.mono (by omega) with a := Pol.req_fit hf1.out.a k, b := Pol.req_fit hf1.out.b k, al := ((s1.A.sort k 0).1 hf1.out.al).1, bl := ((s1.B.sort k 0).2 hf1.out.bl).1 }⟩
      have hx2 : Hide (({ s1 with A := (s1.A.req k).1, B := (s1.B.req k).1 } : Ln).tape = s.tape) := ⟨hx.out.2.2⟩
      obtain ⟨s2, hs2⟩ : ∃ s2 : Ln, { s1 with A := (s1.A.req k).1, B := (s1.B.req k).1 } = s2 := ⟨_, rfl⟩
      rw [hs2] at hr hf2 hx2
      replace hs2 := hide hs2
      clear hs1
      go_wp2_with (first
        | (go_at_call 308; (with_reducible refine (Ln_bothReq1 (k := k) (Holds.p1 (Holds.p2 HH.out)) (i + 2) hf1.out (by omega) hx.out.1 hx.out.2.1).mono ?_); rintro r w4 ⟨rfl, h4⟩; rw [hs2.out] at h4; have h4 : Hide (Holds g w4 (IsLn b tb s2 :: IsTape tb s2.tape :: _)) := ⟨by rw [hx2.out]; exact h4⟩)
        | (go_at_call 306; (with_reducible refine (Ln_window h4.out (i + 3) hf2.out (by omega)).mono ?_); rintro r w5 ⟨rfl, h5⟩; have h5 := hide h5; clear t0 t1 t2 z0 z1 z2 f0 f1 f2; obtain ⟨t0, t1, t2⟩ := cells3 (Holds.p2 h5.out); obtain ⟨z0, z1, z2⟩ := cells3 (Holds.p3 h5.out); obtain ⟨f0, f1, f2⟩ := free3 (Holds.p3 h5.out)))
      have HR := put3 (Holds.p3 h5.out) (.bool true) (.string ⟨#[]⟩) (.bool false)
      refine bodyPost_ret (ret_step rfl HR rfl) rfl ?_
      rw [hr.out]
      exact ⟨rfl, HR.drop.p2.drop⟩
    | false =>
      obtain ⟨s1, hs1⟩ : ∃ s1 : Ln, s0.regret k = s1 := ⟨_, rfl⟩
      have ht1 : Hide (s1.tape = s.tape) := ⟨by rw [← hs1, regret_tape]; exact hs0'.out.2.2.1⟩
      obtain ⟨⟨s2, x, out⟩, hs2⟩ : ∃ q, s1.room = q := ⟨_, rfl⟩
      have hf1 : Hide (s1.Fit (i + 1)) := ⟨by rw [← hs1]; exact Ln.regret_fit hf0.out k⟩
      have hf2 : Hide (s2.Fit (i + 2)) := ⟨by have := Ln.room_fit hf1.out; rw [hs2] at this; exact this⟩
      have hr : Hide (res = ((s2.adopts k).window, ⟨false, x, out⟩)) := ⟨by rw [hreq.out, if_neg h0, if_neg (by decide), hs1, hs2]⟩
      have cR := hide (fun w' (hh : Holds g w' (IsLn b tb s1 :: IsTape tb s1.tape :: pts kb (.cells #[.string k] 9) :: pts r5 (.cells #[.bool false, .string ⟨#[]⟩, .bool false] 34) :: pts r4 (.cells #[.bool false, .string ⟨#[]⟩, .bool false] 34) :: F)) => by
        have c := Ln_room hh (i + 1) hf1.out (by omega)
        rw [hs2] at c
        exact c)
      have hm0 : Hide (s0.most ≤ 16777216) := ⟨by rw [hs0'.out.1]; exact hmost⟩
      replace hs1 := hide hs1
      replace hs2 := hide hs2
      clear b13 g13 e1
      go_wp2_with (first
        | (go_at_call 317; (with_reducible refine (Ln_regret HB.out k (i + 1) hf0.out (by omega) hm0.out).mono ?_); rintro r w4 ⟨rfl, h4⟩; rw [hs1.out, ← ht1.out] at h4; have h4 := hide h4)
        | (go_at_call 318; (with_reducible refine (cR.out _ h4.out).mono ?_); rintro r w5 ⟨rfl, h5⟩; clear t0 t1 t2 z0 z1 z2 f0 f1 f2; obtain ⟨t0, t1, t2⟩ := cells3 (Holds.p3 h5); obtain ⟨f0, f1, f2⟩ := free3 (Holds.p3 h5); have HS := hide (setAt (setAt (Holds.p3 h5) (off := 1) (v := .string x) (cs' := #[.bool false, .string x, .bool false]) rfl) (off := 2) (v := .bool out) (cs' := #[.bool false, .string x, .bool out]) rfl); clear h5)
        | (go_at_call 308; (with_reducible refine (Ln_bothReq2 (k := k) (Holds.p1 (Holds.p3 (Holds.p1 HS.out))) (i + 2) hf2.out (by omega)).mono ?_); rintro r w6 ⟨rfl, h6⟩; have h6 := hide h6)
        | (go_at_call 306; (with_reducible refine (Ln_window (s := s2.adopts k) (h6.out.p2.p1) (i + 3) (Ln.adopts_fit hf2.out k) (by omega)).mono ?_); rintro r w7 ⟨rfl, h7⟩; have h7 := hide h7; obtain ⟨t0, t1, t2⟩ := cells3 (Holds.p2 h7.out); obtain ⟨z0, z1, z2⟩ := cells3 (Holds.p3 h7.out); obtain ⟨y0, y1, y2⟩ := free3 (Holds.p3 h7.out)))
      have HR := put3 (Holds.p3 h7.out) (.bool false) (.string x) (.bool out)
      refine bodyPost_ret (ret_step rfl HR rfl) rfl ?_
      rw [hr.out]
      exact ⟨rfl, HR.drop.p2.drop⟩
end Go.Proofs.YtbbdimlpofjlfaaGreatDoor
