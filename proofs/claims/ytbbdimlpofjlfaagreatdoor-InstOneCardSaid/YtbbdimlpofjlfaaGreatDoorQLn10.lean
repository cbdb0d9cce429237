/- A learner in memory: Resize. -/
import Derived.Test.YtbbdimlpofjlfaaGreatDoorQLn7
import Derived.Test.YtbbdimlpofjlfaaGreatDoorQLn9
import Derived.Test.YtbbdimlpofjlfaaGreatDoorQTwInv
namespace Go.Proofs.YtbbdimlpofjlfaaGreatDoor
open Go Go.RowKit

theorem Ln.drop_step {s : Ln} (h : s.Inv) (hl : 0 < s.len) : s.victim.2 = true ∧ s.drop.Inv ∧ s.drop.len + 1 = s.len ∧ s.victim.1 ∈ s.A.res ∧ (∀ c, c ∈ s.drop.A.res ↔ c ∈ s.A.res ∧ c ≠ s.victim.1) := by
  rw [Ln.len_res] at hl
  have hne : s.A.res ≠ [] := List.length_pos_iff.1 hl
  have hneB : s.B.res ≠ [] := fun e => by have := h.lens; rw [e] at this; exact hne (List.length_eq_zero_iff.1 this.symm)
  have hvic : s.victim.2 = true ∧ s.victim.1 ∈ s.A.res := by
    unfold Ln.victim
    split
    · obtain ⟨v1, v2⟩ := Pol.victim_res s.A
      exact ⟨by rw [v1]; cases hr : s.A.res with | nil => exact absurd hr hne | cons => rfl, v2 hne⟩
    · obtain ⟨v1, v2⟩ := Pol.victim_res s.B
      exact ⟨by rw [v1]; cases hr : s.B.res with | nil => exact absurd hr hneB | cons => rfl, (h.same _).2 (v2 hneB)⟩
  have e : s.drop = s.gone s.victim.1 := by unfold Ln.drop; rw [if_pos hvic.1]
  rw [e, Ln.len_res, Ln.len_res]
  obtain ⟨g1, g2⟩ := Ln.gone_inv0 h.toInv0 s.victim.1
  exact ⟨hvic.1, Ln.gone_inv h _, Ln.gone_len h.toInv0 hvic.2, hvic.2, g2⟩
set_option maxRecDepth 100000
set_option maxHeartbeats 2000000
theorem Ln_both_resizeP {g w : World} {b : Nat} {p p1 p2 : LnAd} {s s1 s2 : Ln} {F : List SProp} {kb : Nat} (h : Holds g w (LnRaw b p s F))
    (c1 : Calls Tryz.prog 320 #[.pointer (some ⟨p.a, 0, none⟩), .pointer (some ⟨kb, 0, none⟩)] w fun r w' => r = .returned (.tuple #[]) ∧ Holds g w' (LnRaw b p1 s1 F))
    (c2 : ∀ w1, Holds g w1 (LnRaw b p1 s1 F) → Calls Tryz.prog 320 #[.pointer (some ⟨p.b, 0, none⟩), .pointer (some ⟨kb, 0, none⟩)] w1 fun r w' => r = .returned (.tuple #[]) ∧ Holds g w' (LnRaw b p2 s2 F)) :
    Calls Tryz.prog 308 #[.pointer (some ⟨b, 0, none⟩), .func (.func 320) #[] #[.pointer (some ⟨kb, 0, none⟩)]] w fun r w' => r = .returned (.tuple #[]) ∧ Holds g w' (LnRaw b p2 s2 F) := by
  obtain ⟨_, _, _, _, c4, c5, _⟩ := lnc0 h
  replace c1 := hide c1
  replace c2 := hide c2
  have i0 : ∀ w : World, (Instr.index 150 (.agg #[.pointer (some ⟨p.a, 0, none⟩), .pointer (some ⟨p.b, 0, none⟩)]) (.int .i64 0)).run Tryz.prog w = .ok (.pointer (some ⟨p.a, 0, none⟩)) w := fun _ => by kernel_rfl
  have i1 : ∀ w : World, (Instr.index 150 (.agg #[.pointer (some ⟨p.a, 0, none⟩), .pointer (some ⟨p.b, 0, none⟩)]) (.int .i64 1)).run Tryz.prog w = .ok (.pointer (some ⟨p.b, 0, none⟩)) w := fun _ => by kernel_rfl
  clear h
  go_enter Tryz.func308, Tryz.ntmps308
  go_wp2
  refine wp_loop_rounds 3 ?_
  rw [rounds_succ]
  go_wp2_with (go_at_call 320; (with_reducible refine c1.out.mono ?_); rintro r w1 ⟨rfl, h1⟩; have h1 := hide h1)
  rw [rounds_succ]
  go_wp2_with (go_at_call 320; (with_reducible refine (c2.out _ h1.out).mono ?_); rintro r w2 ⟨rfl, h2⟩; have h2 := hide h2)
  rw [rounds_succ]
  go_wp2
  go_end0
  exact ⟨rfl, h2.out⟩
theorem Ln_bothResize {g w : World} {b tb kb : Nat} {s : Ln} {F : List SProp} (most : Nat) (h : Holds g w (IsLn b tb s :: pts kb (.cells #[.int .i64 (most : Nat)] 3) :: F)) (hm : most ≤ 16777216) (i m' : Nat) (ha : s.A.Fit i m') (hb : s.B.Fit i m') (hi : i < 100000) (hm' : m' ≤ 1000000000) :
    Calls Tryz.prog 308 #[.pointer (some ⟨b, 0, none⟩), .func (.func 320) #[] #[.pointer (some ⟨kb, 0, none⟩)]] w fun r w' => r = .returned (.tuple #[]) ∧ Holds g w' (IsLn b tb { s with A := (s.A.resize most).1, B := (s.B.resize most).1 } :: F) := by
  replace h := h.isLn
  obtain ⟨p, rfl, H0⟩ := h
  refine (Ln_both_resizeP (p1 := { p with ma := most }) (p2 := { p with ma := most, mb := most }) (s1 := { s with A := (s.A.resize most).1 }) (s2 := { s with A := (s.A.resize most).1, B := (s.B.resize most).1 }) (kb := kb) H0
    ((resize_1 (Holds.p1 H0) most (Holds.cell (Holds.p6 H0) rfl) hm i m' ha hi hm').mono fun r w' ⟨hr, h1⟩ => ⟨hr, h1.p1⟩)
    (fun w1 H1 => (resize_1 (Holds.p2 H1) most (Holds.cell (Holds.p6 H1) rfl) hm i m' hb hi hm').mono fun r w' ⟨hr, h1⟩ => ⟨hr, h1.p2.p2⟩)).mono ?_
  rintro r w' ⟨hr, h1⟩
  exact ⟨hr, Holds.toLn (p := { p with ma := most, mb := most }) (s := { s with A := (s.A.resize most).1, B := (s.B.resize most).1 }) (show Holds g w' (LnRaw b { p with ma := most, mb := most } { s with A := (s.A.resize most).1, B := (s.B.resize most).1 } F) from h1.p6.drop)⟩
theorem lnMost {g w : World} {b tb : Nat} {s : Ln} {F : List SProp} (h : Holds g w (IsLn b tb s :: F)) (n : Nat) : Holds g (w.setCell ⟨b, 1, none⟩ (.int .i64 (n : Nat))) (IsLn b tb { s with most := n } :: F) := by
  replace h := h.isLn
  obtain ⟨p, rfl, h⟩ := h
  exact Holds.toLn (s := { s with most := n }) (h.setCell (off := 1) (v := .int .i64 (n : Nat)))
theorem lnBit1 {g w : World} {b tb : Nat} {s : Ln} {F : List SProp} (h : Holds g w (IsLn b tb s :: F)) : w.cell? ⟨b, 1, none⟩ = some (.int .i64 (s.most : Nat)) ∧ w.frozen? ⟨b, 1, none⟩ = false := by
  obtain ⟨p, _, h⟩ := h.isLn
  exact ⟨(lnc0 h).2.1, lnFree h 1⟩
theorem Holds.oneStrR {g w : World} {F : List SProp} {q : Nat} {k : ByteArray} (h : Holds g w (pts q (.cells #[.string k] 9) :: F)) : Holds g w (OwnStrs (.slice (some ⟨q, 0, none⟩) 1 1) [k] :: F) := Holds.one h
theorem Ln_Resize {g w : World} {b tb : Nat} {s : Ln} {F : List SProp} (h : Holds g w (IsLn b tb s :: F)) (most : Nat) (hm : most ≤ 16777216) (i : Nat) (hf : s.Fit i) (hi : i < 100000) (hv : s.Inv) (hms : s.most ≤ 16777216) :
    Calls Tryz.prog 303 #[.pointer (some ⟨b, 0, none⟩), .int .i64 (most : Nat)] w fun r w' => ∃ v, r = .returned (.tuple #[v, .nilIface]) ∧ Holds g w' (OwnStrs v (s.resize most).2 :: IsLn b tb (s.resize most).1 :: F) := by
  have hln : s.len ≤ i := Pol.len_fit hf.a
  have f1 : ¬ (most : Int) < 0 := by omega
  have f2 : ¬ (16777216 : Int) < most := by omega
  obtain ⟨mb, hmb⟩ : ∃ kb, w.heap.size = kb := ⟨_, rfl⟩
  have HA := (h.alloc (o := .cells #[.int .i64 (most : Nat)] 3)).p1
  rw [hmb] at HA
  obtain ⟨W, hW⟩ : ∃ W, w.alloc (.cells #[.int .i64 (most : Nat)] 3) = W := ⟨_, rfl⟩
  rw [hW] at HA
  have c0 : W.cell? ⟨mb, 0, none⟩ = some (.int .i64 (most : Nat)) := Holds.cell (Holds.p1 HA) rfl
  have HB := hide (HA.ownNil 9 1)
  obtain ⟨res, hres⟩ : ∃ res, s.resize most = res := ⟨_, rfl⟩
  have hR : Hide (∀ s' l, Ln.dropN (s.len - most) s = (s', l) → res = (Ln.trimB (Ln.trimA { s' with most := most, A := (s'.A.resize most).1, B := (s'.B.resize most).1 }), l)) := ⟨fun s' l e => by
    rw [← hres]
    unfold Ln.resize
    dsimp only
    rw [e]⟩
  rw [hres]
  replace hres := hide hres
  have hmf : ∀ (fn : Fn) (first cap : Array Value) (w : World), (Instr.makeFunc fn first cap).run Tryz.prog w = .ok (.func fn first cap) w := fun _ _ _ _ => rfl
  replace hf := hide hf
  replace hv := hide hv
  replace hms := hide hms
  replace hi := hide hi
  replace hm := hide hm
  replace hln := hide hln
  clear h HA
  go_enter Tryz.func303, Tryz.ntmps303
  go_upto_region 1 with fail
  try simp only [hmb]
  try rw [hW]
  clear hmb hW
  go_wp2
  go_loopg [6] (s.len) (fun c v wr => ∃ s' l, Hide (s'.len = c) ∧ Hide (Ln.dropN (s.len - most) s = ((Ln.dropN (s'.len - most) s').1, l ++ (Ln.dropN (s'.len - most) s').2)) ∧ Hide (s'.Inv) ∧ Hide (s'.Fit i) ∧ Hide (s'.len + l.length = s.len ∧ s'.most = s.most) ∧ Holds g wr (OwnStrs v l :: IsLn b tb s' :: pts mb (.cells #[.int .i64 (most : Nat)] 3) :: F))
  case atStart => exact ⟨s, [], ⟨rfl⟩, ⟨rfl⟩, hv, hf, ⟨rfl, rfl⟩, HB.out⟩
  case round =>
    clear HB c0
    obtain ⟨s', l, hc, hd, hv', hf', hlen, hh⟩ := hrel
    obtain ⟨ao, cap, hvs⟩ := (show RowAt wr _ (strs l) from Holds.rowAt (by unfold OwnStrs at hh; exact hh)).shape
    rw [strs_length] at hvs
    subst hvs
    obtain ⟨n, hn⟩ : ∃ n, s'.len = n := ⟨_, rfl⟩
    have hle := hlen.out.1
    have hlb := hln.out
    have hib := hi.out
    have cL := hide (fun m => Ln_Len (Holds.p1 (hh.drewN (n := m))) n hn (by omega))
    have d0 : wr.cell? ⟨mb, 0, none⟩ = some (.int .i64 (most : Nat)) := Holds.cell (Holds.p2 hh) rfl
    by_cases hlt : most < n
    · have g2 : decide ((most : Int) < n) = true := decide_eq_true (by omega)
      have g3 : decide (most < n) = true := decide_eq_true hlt
      obtain ⟨q1, q2, q3, _, _⟩ := Ln.drop_step hv'.out (by omega)
      obtain ⟨x, hx⟩ : ∃ x, s'.victim.1 = x := ⟨_, rfl⟩
      have cD := hide (fun m => Ln_Drop (Holds.p1 (hh.drewN (n := m))) x true (by rw [← hx, ← q1]))
      have hrl : Hide (l.length + [x].length ≤ 2000000) := ⟨by simp only [List.length_singleton]; omega⟩
      have hd2 : Hide (Ln.dropN (s.len - most) s = ((Ln.dropN (s'.drop.len - most) s'.drop).1, (l ++ [x]) ++ (Ln.dropN (s'.drop.len - most) s'.drop).2)) := ⟨by
        have e := hd.out
        rw [hn, show n - most = (n - 1 - most) + 1 by omega] at e
        rw [show s'.drop.len = n - 1 by omega, e, List.append_assoc, ← hx]
        rfl⟩
      have hlen2 : Hide (s'.drop.len + (l ++ [x]).length = s.len ∧ s'.drop.most = s.most) := ⟨by rw [List.length_append, List.length_singleton]; omega, (Ln.drop_like s').most.trans hlen.out.2⟩
      replace hn := hide hn
      replace hx := hide hx
      replace q1 := hide q1
      replace q3 := hide q3
      replace hle := hide hle
      clear hh hlb hib
      go_wp2
      go_quiet ((go_at_call 299; exact Calls.quiet_of (cL.out _)))
      go_wp2_with (first
        | (go_at_call 294; (with_reducible refine (cD.out _).mono ?_); rintro r w3 ⟨rfl, h3⟩; have h3 := hide h3)
        | (at_builtin; refine wpList_append_strs rfl _ _ rfl (Holds.p1 (Holds.oneStrR ((Holds.p1 h3.out).alloc (o := .cells #[.string x] 9)))) hrl.out rfl rfl ?_; intro v5 w5 h5; have h5 := hide h5))
      go_roundg (n - 1)
      case measure => have := hc.out; have := hn.out; omega
      case rel => exact ⟨s'.drop, l ++ [x], ⟨by have := q3.out; have := hn.out; omega⟩, hd2, ⟨q2⟩, ⟨Ln.drop_fit hf'.out⟩, hlen2, h5.out⟩
    · have g2 : decide ((most : Int) < n) = false := decide_eq_false (by omega)
      have g3 : decide (most < n) = false := decide_eq_false hlt
      have hr : Hide (res = (Ln.trimB (Ln.trimA { s' with most := most, A := (s'.A.resize most).1, B := (s'.B.resize most).1 }), l)) := ⟨hR.out _ _ (by
        rw [hd.out, hn, show n - most = 0 by omega]
        show (s', l ++ []) = (s', l)
        rw [List.append_nil])⟩
      obtain ⟨c1, y1⟩ := lnBit1 (Holds.p1 hh)
      have HM := hide (fun m => (lnMost (Holds.p1 (hh.drewN (n := m))) most).p2.p1)
      replace hn := hide hn
      clear hle hlb hib
      replace hlt := hide hlt
      clear hh
      go_wp2
      go_quiet ((go_at_call 299; exact Calls.quiet_of (cL.out _)))
      go_wp2_with (first
        | (go_at_call 308; (with_reducible refine (Ln_bothResize most (HM.out _) hm.out i s'.most hf'.out.a hf'.out.b hi.out (by have := hlen.out.2; have := hms.out; omega)).mono ?_); rintro r w4 ⟨rfl, h4⟩; have h4 := hide h4)
        | (go_at_call 322; (with_reducible refine (Ln_trimA h4.out).mono ?_); rintro r w5 ⟨rfl, h5⟩; have h5 := hide h5)
        | (go_at_call 322; (with_reducible refine (Ln_trimB h5.out).mono ?_); rintro r w6 ⟨rfl, h6⟩; have h6 := hide h6))
      go_ret2
      refine ⟨_, rfl, ?_⟩
      rw [hr.out]
      exact h6.out.p1
end Go.Proofs.YtbbdimlpofjlfaaGreatDoor
/- What a learner forgets, and who goes where it is made smaller: no program in sight. -/
namespace Go.Proofs.YtbbdimlpofjlfaaGreatDoor
open Go Go.RowKit

theorem Pol.resize_less {p : Pol} {m : Nat} (h : p.len ≤ m) : (p.resize m).1.res = p.res := by
  cases p with
  | lru s => exact List.take_of_length_le h
  | lfu s =>
    show hKeys (s.srt.drop (s.srt.length - m)) = hKeys s.srt
    rw [show s.srt.length - m = 0 from Nat.sub_eq_zero_of_le h]
    rfl
  | sr s =>
    show Sr.res (Sr.trim (Sr.evictN (s.len - m) { s with most := m, target := min s.target m }).1) = s.res
    rw [show s.len - m = 0 from Nat.sub_eq_zero_of_le h]
    rfl
theorem Pol.has_sort {p : Pol} (h : ∀ q, p ≠ .lfu q) (k : ByteArray) : p.has k = decide (k ∈ p.res) := by
  cases p with
  | lru s => rfl
  | lfu s => exact absurd rfl (h s)
  | sr s =>
    show (decide (k ∈ s.n) || decide (k ∈ s.a)) = decide (k ∈ s.n ++ s.a)
    rw [← Bool.decide_or]
    exact decide_eq_decide.2 List.mem_append.symm
theorem Pol.mem_keys (p : Pol) (c : ByteArray) : c ∈ p.keys ↔ c ∈ p.res := by
  cases p with
  | lru s => exact List.mem_reverse
  | lfu s => exact Iff.rfl
  | sr s =>
    show c ∈ s.n.reverse ++ s.a.reverse ↔ c ∈ s.n ++ s.a
    rw [List.mem_append, List.mem_append, List.mem_reverse, List.mem_reverse]
theorem Pol.len_keys (p : Pol) : p.keys.length = p.len := by
  cases p with
  | lru s => exact List.length_reverse
  | lfu s => exact List.length_map _
  | sr s =>
    show (s.n.reverse ++ s.a.reverse).length = s.n.length + s.a.length
    rw [List.length_append, List.length_reverse, List.length_reverse]
theorem Ln.drop_rows (s : Ln) : s.drop.GA = s.GA ∧ s.drop.GB = s.GB := by
  unfold Ln.drop
  split <;> exact ⟨rfl, rfl⟩
/-- Who goes. -/
structure Gone (s t : Ln) (j : Nat) (l : List ByteArray) : Prop where
  inv : t.Inv
  len : t.len + j = s.len
  size : l.length = j
  gone : ∀ x ∈ l, x ∈ s.A.res ∧ x ∉ t.A.res
  stay : ∀ c ∈ t.A.res, c ∈ s.A.res
  ga : t.GA = s.GA
  gb : t.GB = s.GB
theorem Ln.dropN_gone : ∀ (j : Nat) {s : Ln}, s.Inv → j ≤ s.len → Gone s (Ln.dropN j s).1 j (Ln.dropN j s).2
  | 0, s, h, _ => ⟨h, rfl, rfl, (fun _ h => by cases h), fun _ h => h, rfl, rfl⟩
  | j + 1, s, h, hj => by
    obtain ⟨_, q2, q3, q4, q5⟩ := Ln.drop_step h (by omega)
    obtain ⟨q6, q7⟩ := Ln.drop_rows s
    have ih := Ln.dropN_gone j q2 (by omega)
    have e1 : (Ln.dropN (j + 1) s).1 = (Ln.dropN j s.drop).1 := rfl
    have e2 : (Ln.dropN (j + 1) s).2 = s.victim.1 :: (Ln.dropN j s.drop).2 := rfl
    rw [e1, e2]
    refine ⟨ih.inv, by have := ih.len; omega, by rw [List.length_cons, ih.size], fun x hx => ?_, fun c hc => ((q5 c).1 (ih.stay c hc)).1, ih.ga.trans q6, ih.gb.trans q7⟩
    rcases List.mem_cons.1 hx with rfl | hx
    · exact ⟨q4, fun hc => ((q5 _).1 (ih.stay _ hc)).2 rfl⟩
    · exact ⟨((q5 x).1 (ih.gone x hx).1).1, (ih.gone x hx).2⟩
/-- What is told after a resizing. -/
structure Resized (s t : Ln) (m : Nat) (l : List ByteArray) : Prop where
  size : l.length = s.len - m
  len : t.len + l.length = s.len
  most : t.most = m
  ghosts : t.ghosts.length ≤ 2 * m
  gone : ∀ x ∈ l, t.has x = false ∧ x ∈ s.A.keys ∧ x ∉ t.ghosts
theorem Ln.resize_tells {s : Ln} (h : s.Inv) (hp : ∀ q, s.A ≠ .lfu q) (m : Nat) : Resized s (s.resize m).1 m (s.resize m).2 := by
  have hg := Ln.dropN_gone (s.len - m) h (Nat.sub_le _ _)
  have hpN : ∀ (j : Nat) (s : Ln), (∀ q, s.A ≠ .lfu q) → ∀ q, (Ln.dropN j s).1.A ≠ .lfu q := fun j => by
    induction j with
    | zero => exact fun s h => h
    | succ j ih =>
      intro s h
      refine ih s.drop ?_
      unfold Ln.drop
      split
      · exact ((s.A.sort _ 0).1 h).2.2.1
      · exact h
  have hq := hpN (s.len - m) s hp
  unfold Ln.resize
  dsimp only
  obtain ⟨r, hr⟩ : ∃ r, Ln.dropN (s.len - m) s = r := ⟨_, rfl⟩
  rw [hr] at hg hq ⊢
  obtain ⟨t0, l⟩ := r
  dsimp only at hg hq ⊢
  obtain ⟨t, ht⟩ : ∃ t, Ln.trimB (Ln.trimA { t0 with most := m, A := (t0.A.resize m).1, B := (t0.B.resize m).1 }) = t := ⟨_, rfl⟩
  rw [ht]
  have eA : t.A = (t0.A.resize m).1 := by rw [← ht]; rfl
  have eGA : t.GA = t0.GA.take m := by rw [← ht]; rfl
  have eGB : t.GB = t0.GB.take m := by rw [← ht]; rfl
  have em : t.most = m := by rw [← ht]; rfl
  have hl := hg.len
  have hs := hg.size
  have hres : t.A.res = t0.A.res := by rw [eA]; exact Pol.resize_less (by show t0.len ≤ m; omega)
  have htl : t.len = t0.len := by rw [Ln.len_res, Ln.len_res, hres]
  have hqt : ∀ q, t.A ≠ .lfu q := by rw [eA]; exact ((t0.A.sort bNil m).1 hq).2.2.2
  refine ⟨hs, by omega, em, ?_, fun x hx => ⟨?_, ?_, ?_⟩⟩
  · unfold Ln.ghosts
    rw [List.length_append, eGA, eGB, List.length_take, List.length_take]
    omega
  · show t.A.has x = false
    rw [Pol.has_sort hqt, hres]
    exact decide_eq_false (hg.gone x hx).2
  · exact (Pol.mem_keys _ _).2 (hg.gone x hx).1
  · unfold Ln.ghosts
    rw [List.mem_append, eGA, eGB, hg.ga, hg.gb]
    rintro (hc | hc)
    · exact h.gra x (List.mem_of_mem_take hc) (hg.gone x hx).1
    · exact h.grb x (List.mem_of_mem_take hc) (hg.gone x hx).1
/-- What is told of a removal. -/
theorem Ln.remove_tells {s : Ln} (h : s.Inv) (k : ByteArray) : (s.remove k).Inv ∧ (s.remove k).has k = false ∧ k ∉ (s.remove k).ghosts ∧ (s.has k = true → (s.remove k).len + 1 = s.len) ∧ (s.remove k).len ≤ s.len := by
  obtain ⟨r1, r2, r3, r4⟩ := Ln.remove_inv h k
  refine ⟨r1, by rw [r1.has]; exact decide_eq_false fun hc => ((r2 k).1 hc).2 rfl, fun hc => ?_, fun hk => ?_, ?_⟩
  · rcases List.mem_append.1 hc with hc | hc
    · exact r3 hc
    · exact r4 hc
  · rw [h.has] at hk
    rw [Ln.len_res, Ln.len_res]
    exact Ln.gone_len h.toInv0 (of_decide_eq_true hk)
  · rw [Ln.len_res, Ln.len_res]
    exact sub_len r1.a.nodup fun c hc => ((r2 c).1 hc).1
/-- What is told of an adoption of a key that was forgotten. -/
theorem Ln.adopt_tells {s : Ln} (h : s.Inv) (k : ByteArray) (hk : s.has k = false) (hg : k ∉ s.ghosts) : (s.adopt k).1.Inv ∧ (s.adopt k).2 = decide (s.len < s.most) ∧ (s.adopt k).1.has k = decide (s.len < s.most) ∧ k ∉ (s.adopt k).1.ghosts := by
  have hk' : k ∉ s.A.res := fun hc => by rw [h.has, decide_eq_true hc] at hk; cases hk
  by_cases hl : s.A.res.length < s.most
  · obtain ⟨a1, a2, a3, a4, a5⟩ := Ln.adopt_yes h k hk' hl
    rw [Ln.len_res, decide_eq_true hl]
    refine ⟨a2, a1, by rw [a2.has]; exact decide_eq_true ((a3 k).2 (.inl rfl)), fun hc => ?_⟩
    rcases List.mem_append.1 hc with hc | hc
    · rw [a4] at hc; exact (kDel_mem.1 hc).2 rfl
    · rw [a5] at hc; exact (kDel_mem.1 hc).2 rfl
  · rw [Ln.adopt_no h k (.inr (by omega)), Ln.len_res, decide_eq_false hl]
    exact ⟨h, rfl, hk, hg⟩
end Go.Proofs.YtbbdimlpofjlfaaGreatDoor
