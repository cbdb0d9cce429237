/- arc in memory: Remove, Victim, Drop. -/
import Derived.Test.YtbbdimlpofjlfaaGreatDoorQArc4
import Derived.Test.YtbbdimlpofjlfaaGreatDoorQApp
import Derived.StillTailTactics
namespace Go.Proofs.YtbbdimlpofjlfaaGreatDoor
open Go Go.RowKit

set_option maxRecDepth 100000
set_option maxHeartbeats 2000000
/-- A key comes off the row in which it lies. -/
theorem Arc_rowOff {g w : World} {b : Nat} {s : Arc} {F : List SProp} (h : Holds g w (IsArc b s :: F)) (k : ByteArray) (i : Nat) (q : Nat) (hi : s.at k = (i : Int)) (hi4 : i < 4) (hq : w.cell? ⟨b, 2 + i, none⟩ = some (.pointer (some ⟨q, 0, none⟩))) :
    Calls Tryz.prog 164 #[.pointer (some ⟨q, 0, none⟩), .string k] w fun r w' => r = .returned (.bool true) ∧ Holds g w' (IsArc b (s.off k) :: F) ∧ w'.cell? ⟨b, 2 + i, none⟩ = some (.pointer (some ⟨q, 0, none⟩)) := by
  obtain ⟨q0, q1, q2, q3, hR⟩ := h.isArc
  obtain ⟨_, _, c2, c3, c4, c5⟩ := arcc hR
  unfold Arc.at at hi
  unfold Arc.off
  by_cases h0 : k ∈ s.t1
  · rw [if_pos h0] at hi ⊢
    obtain rfl : i = 0 := by omega
    obtain rfl : q0 = q := by rw [c2] at hq; cases hq; rfl
    refine (List_Remove (Holds.p1 hR) k true (decide_eq_true h0)).mono ?_
    rintro r w' ⟨rfl, h1⟩
    exact ⟨rfl, Holds.toArc (q0 := q0) (q1 := q1) (q2 := q2) (q3 := q3) (s := { s with t1 := kDel s.t1 k }) h1.p1, (arcc h1.p1).2.2.1⟩
  · rw [if_neg h0] at hi ⊢
    by_cases h1 : k ∈ s.t2
    · rw [if_pos h1] at hi ⊢
      obtain rfl : i = 1 := by omega
      obtain rfl : q1 = q := by rw [c3] at hq; cases hq; rfl
      refine (List_Remove (Holds.p2 hR) k true (decide_eq_true h1)).mono ?_
      rintro r w' ⟨rfl, h1⟩
      exact ⟨rfl, Holds.toArc (q0 := q0) (q1 := q1) (q2 := q2) (q3 := q3) (s := { s with t2 := kDel s.t2 k }) h1.p2.p2, (arcc h1.p1).2.2.2.1⟩
    · rw [if_neg h1] at hi ⊢
      by_cases h2 : k ∈ s.b1
      · rw [if_pos h2] at hi ⊢
        obtain rfl : i = 2 := by omega
        obtain rfl : q2 = q := by rw [c4] at hq; cases hq; rfl
        refine (List_Remove (Holds.p3 hR) k true (decide_eq_true h2)).mono ?_
        rintro r w' ⟨rfl, h1⟩
        exact ⟨rfl, Holds.toArc (q0 := q0) (q1 := q1) (q2 := q2) (q3 := q3) (s := { s with b1 := kDel s.b1 k }) h1.p3.p3.p3, (arcc h1.p1).2.2.2.2.1⟩
      · rw [if_neg h2] at hi ⊢
        by_cases h3 : k ∈ s.b2
        · rw [if_pos h3] at hi
          obtain rfl : i = 3 := by omega
          obtain rfl : q3 = q := by rw [c5] at hq; cases hq; rfl
          refine (List_Remove (Holds.p4 hR) k true (decide_eq_true h3)).mono ?_
          rintro r w' ⟨rfl, h1⟩
          exact ⟨rfl, Holds.toArc (q0 := q0) (q1 := q1) (q2 := q2) (q3 := q3) (s := { s with b2 := kDel s.b2 k }) h1.p4.p4.p4.p4, (arcc h1.p1).2.2.2.2.2⟩
        · rw [if_neg h3] at hi
          omega
theorem Arc.off_none {s : Arc} {k : ByteArray} (h : s.at k = 4) : s.off k = s := by
  unfold Arc.at at h
  unfold Arc.off
  by_cases h0 : k ∈ s.t1
  · rw [if_pos h0] at h; omega
  · rw [if_neg h0] at h ⊢
    by_cases h1 : k ∈ s.t2
    · rw [if_pos h1] at h; omega
    · rw [if_neg h1] at h ⊢
      by_cases h2 : k ∈ s.b1
      · rw [if_pos h2] at h; omega
      · rw [if_neg h2] at h ⊢
        by_cases h3 : k ∈ s.b2
        · rw [if_pos h3] at h; omega
        · rw [kDel_none h3]
theorem Arc.at_cases (s : Arc) (k : ByteArray) : s.at k = 0 ∨ s.at k = 1 ∨ s.at k = 2 ∨ s.at k = 3 ∨ s.at k = 4 := by
  unfold Arc.at
  split
  · exact .inl rfl
  split
  · exact .inr (.inl rfl)
  split
  · exact .inr (.inr (.inl rfl))
  split
  · exact .inr (.inr (.inr (.inl rfl)))
  · exact .inr (.inr (.inr (.inr rfl)))
theorem arcPtrs {g w : World} {b : Nat} {s : Arc} {F : List SProp} (h : Holds g w (IsArc b s :: F)) : ∃ q0 q1 q2 q3, w.cell? ⟨b, 2, none⟩ = some (.pointer (some ⟨q0, 0, none⟩)) ∧ w.cell? ⟨b, 3, none⟩ = some (.pointer (some ⟨q1, 0, none⟩)) ∧ w.cell? ⟨b, 4, none⟩ = some (.pointer (some ⟨q2, 0, none⟩)) ∧ w.cell? ⟨b, 5, none⟩ = some (.pointer (some ⟨q3, 0, none⟩)) := by
  obtain ⟨q0, q1, q2, q3, hR⟩ := h.isArc
  obtain ⟨_, _, c2, c3, c4, c5⟩ := arcc hR
  exact ⟨q0, q1, q2, q3, c2, c3, c4, c5⟩
theorem Arc_Remove {g w : World} {b : Nat} {s : Arc} {F : List SProp} (h : Holds g w (IsArc b s :: F)) (k : ByteArray) (d : Bool) (hd : s.has k = d) :
    Calls Tryz.prog 106 #[.pointer (some ⟨b, 0, none⟩), .string k] w fun r w' => r = .returned (.bool d) ∧ Holds g w' (IsArc b (s.off k) :: F) := by
  obtain ⟨q0, q1, q2, q3, c2, c3, c4, c5⟩ := arcPtrs h
  rw [← Arc.at_has] at hd
  rcases s.at_cases k with hi | hi | hi | hi | hi
  · have cA := hide (Arc_at h k 0 hi)
    have cR := hide (Arc_rowOff h k 0 q0 hi (by omega) c2)
    obtain rfl : true = d := by rw [← hd, hi]; rfl
    (clear h hd hi; go_enter Tryz.func106, Tryz.ntmps106; go_wp2_with (first | (go_at_call 182; (with_reducible refine cA.out.mono ?_); rintro r w1 ⟨rfl, rfl⟩) | (go_at_call 164; (with_reducible refine cR.out.mono ?_); rintro r w2 ⟨rfl, h2, _⟩; have h2 := hide h2)); go_ret; exact ⟨rfl, h2.out⟩)
  · have cA := hide (Arc_at h k 1 hi)
    have cR := hide (Arc_rowOff h k 1 q1 hi (by omega) c3)
    obtain rfl : true = d := by rw [← hd, hi]; rfl
    (clear h hd hi; go_enter Tryz.func106, Tryz.ntmps106; go_wp2_with (first | (go_at_call 182; (with_reducible refine cA.out.mono ?_); rintro r w1 ⟨rfl, rfl⟩) | (go_at_call 164; (with_reducible refine cR.out.mono ?_); rintro r w2 ⟨rfl, h2, _⟩; have h2 := hide h2)); go_ret; exact ⟨rfl, h2.out⟩)
  · have cA := hide (Arc_at h k 2 hi)
    have cR := hide (Arc_rowOff h k 2 q2 hi (by omega) c4)
    obtain rfl : false = d := by rw [← hd, hi]; rfl
    (clear h hd hi; go_enter Tryz.func106, Tryz.ntmps106; go_wp2_with (first | (go_at_call 182; (with_reducible refine cA.out.mono ?_); rintro r w1 ⟨rfl, rfl⟩) | (go_at_call 164; (with_reducible refine cR.out.mono ?_); rintro r w2 ⟨rfl, h2, _⟩; have h2 := hide h2)); go_ret; exact ⟨rfl, h2.out⟩)
  · have cA := hide (Arc_at h k 3 hi)
    have cR := hide (Arc_rowOff h k 3 q3 hi (by omega) c5)
    obtain rfl : false = d := by rw [← hd, hi]; rfl
    (clear h hd hi; go_enter Tryz.func106, Tryz.ntmps106; go_wp2_with (first | (go_at_call 182; (with_reducible refine cA.out.mono ?_); rintro r w1 ⟨rfl, rfl⟩) | (go_at_call 164; (with_reducible refine cR.out.mono ?_); rintro r w2 ⟨rfl, h2, _⟩; have h2 := hide h2)); go_ret; exact ⟨rfl, h2.out⟩)
  · have cA := hide (Arc_at h k 4 hi)
    obtain rfl : false = d := by rw [← hd, hi]; rfl
    rw [Arc.off_none hi]
    replace h := hide h
    clear hd hi
    go_enter Tryz.func106, Tryz.ntmps106
    go_wp2_with (go_at_call 182; (with_reducible refine cA.out.mono ?_); rintro r w1 ⟨rfl, rfl⟩)
    go_ret
    exact ⟨rfl, h.out⟩
end Go.Proofs.YtbbdimlpofjlfaaGreatDoor
/- arc in memory: Victim, Drop, Keys, Ghosts. -/
namespace Go.Proofs.YtbbdimlpofjlfaaGreatDoor
open Go Go.RowKit

set_option maxRecDepth 100000
set_option maxHeartbeats 2000000
theorem Arc_Victim {g w : World} {b : Nat} {s : Arc} {F : List SProp} (h : Holds g w (IsArc b s :: F)) (x : ByteArray) (d : Bool) (hx : s.victim = (x, d)) :
    Calls Tryz.prog 108 #[.pointer (some ⟨b, 0, none⟩)] w fun r w' => r = .returned (.tuple #[.string x, .bool d]) ∧ Keep w w' := by
  have cF := hide (fun (i : Int) (hi : (if s.first false = true then 0 else 1 : Int) = i) w' (k : Keep w w') => (Arc_from (h.keep k) false i hi).mono (fun r w2 (hh : r = _ ∧ w' = w2) => (⟨hh.1, by rw [hh.2]; exact Keep.refl w2⟩ : r = _ ∧ Keep w' w2)))
  obtain ⟨q0, q1, q2, q3, hR⟩ := h.isArc
  obtain ⟨c0, _, c2, c3, _, _⟩ := arcc hR
  obtain ⟨n0, h0⟩ : ∃ n, s.t1.length = n := ⟨_, rfl⟩
  obtain ⟨most, hm⟩ : ∃ n, s.most = n := ⟨_, rfl⟩
  rw [hm] at c0
  have L0 := hide (fun m => List_Len (Holds.p1 (hR.drewN (n := m))) n0 h0)
  unfold Arc.victim at hx
  rw [hm, h0] at hx
  clear h
  by_cases g1 : most ≤ n0
  · have g1' : (most : Int) ≤ n0 := by omega
    have g1d : decide ((most : Int) ≤ n0) = true := decide_eq_true g1'
    rw [if_pos g1] at hx
    cases hx
    have cL := hide (fun w' (k : Keep w w') => List_Last ((Holds.p1 hR).keep k) (kLast s.t1) rfl (!s.t1.isEmpty) rfl)
    obtain ⟨x, hx⟩ : ∃ x, kLast s.t1 = x := ⟨_, rfl⟩
    obtain ⟨d, hd⟩ : ∃ d, (!s.t1.isEmpty) = d := ⟨_, rfl⟩
    rw [hx, hd] at cL ⊢
    clear hR h0 hm cF hx hd
    have kq := hide (Keep.refl w)
    go_enter Tryz.func108, Tryz.ntmps108
    go_wp2
    go_quiet ((go_at_call 161; exact Calls.quiet_eq (L0.out _)))
    go_wp2_with (go_at_call 165; (with_reducible refine (cL.out _ kq.out.drewN).mono ?_); rintro r w1 ⟨rfl, k1⟩; have k1 := hide k1)
    go_ret2
    exact ⟨rfl, kq.out.drewN.trans k1.out⟩
  · have g1' : ¬ (most : Int) ≤ n0 := by omega
    have g1d : decide ((most : Int) ≤ n0) = false := decide_eq_false g1'
    rw [if_neg g1] at hx
    have kq := hide (Keep.refl w)
    cases hf : s.first false with
    | true =>
      rw [hf, if_pos rfl] at hx
      cases hx
      have cF0 := hide (cF.out 0 (by rw [hf]; rfl))
      have cL := hide (fun w' (k : Keep w w') => List_Last ((Holds.p1 hR).keep k) (kLast s.t1) rfl (!s.t1.isEmpty) rfl)
      obtain ⟨x, hx⟩ : ∃ x, kLast s.t1 = x := ⟨_, rfl⟩
      obtain ⟨d, hd⟩ : ∃ d, (!s.t1.isEmpty) = d := ⟨_, rfl⟩
      rw [hx, hd] at cL ⊢
      clear hR h0 hm cF hx hd hf
      go_enter Tryz.func108, Tryz.ntmps108
      go_wp2
      go_quiet ((go_at_call 161; exact Calls.quiet_eq (L0.out _)))
      go_upto_region 3 with fail
      have kz := hide (kq.out.drewN (n := nq))
      generalize w.drewN nq = wz at kz ⊢
      have kW := hide kz.out.drew
      go_region_held3 (fun w' => w'.cell? ⟨b, 2, none⟩ = some (.pointer (some ⟨q0, 0, none⟩))) (first | exact kW.out.cell c2 | exact k1.out.cell c2 | exact k2.out.cell c2)
        ((first
          | (go_at_call 186; (with_reducible refine (cF0.out _ kW.out).mono ?_); rintro r w1 ⟨rfl, k1⟩; have k1 := hide (kW.out.trans k1))
          | (go_at_call 165; (with_reducible refine (cL.out _ k1.out).mono ?_); rintro r w2 ⟨rfl, k2⟩; have k2 := hide (k1.out.trans k2))))
      all_goals
        go_wp2
        go_ret2
        exact ⟨rfl, k2.out⟩
    | false =>
      rw [hf, if_neg (by decide)] at hx
      cases hx
      have cF0 := hide (cF.out 1 (by rw [hf]; rfl))
      have cL := hide (fun w' (k : Keep w w') => List_Last ((Holds.p2 hR).keep k) (kLast s.t2) rfl (!s.t2.isEmpty) rfl)
      obtain ⟨x, hx⟩ : ∃ x, kLast s.t2 = x := ⟨_, rfl⟩
      obtain ⟨d, hd⟩ : ∃ d, (!s.t2.isEmpty) = d := ⟨_, rfl⟩
      rw [hx, hd] at cL ⊢
      clear hR h0 hm cF hx hd hf
      go_enter Tryz.func108, Tryz.ntmps108
      go_wp2
      go_quiet ((go_at_call 161; exact Calls.quiet_eq (L0.out _)))
      go_upto_region 3 with fail
      have kz := hide (kq.out.drewN (n := nq))
      generalize w.drewN nq = wz at kz ⊢
      have kW := hide kz.out.drew
      go_region_held3 (fun w' => w'.cell? ⟨b, 3, none⟩ = some (.pointer (some ⟨q1, 0, none⟩))) (first | exact kW.out.cell c3 | exact k1.out.cell c3 | exact k2.out.cell c3)
        ((first
          | (go_at_call 186; (with_reducible refine (cF0.out _ kW.out).mono ?_); rintro r w1 ⟨rfl, k1⟩; have k1 := hide (kW.out.trans k1))
          | (go_at_call 165; (with_reducible refine (cL.out _ k1.out).mono ?_); rintro r w2 ⟨rfl, k2⟩; have k2 := hide (k1.out.trans k2))))
      all_goals
        go_wp2
        go_ret2
        exact ⟨rfl, k2.out⟩
theorem Arc_Keys {g w : World} {b : Nat} {s : Arc} {F : List SProp} (h : Holds g w (IsArc b s :: F)) (hl : s.t1.length + s.t2.length ≤ 1000000) :
    Calls Tryz.prog 111 #[.pointer (some ⟨b, 0, none⟩)] w fun r w' => ∃ v, r = .returned v ∧ Holds g w' (OwnStrs v s.keys :: IsArc b s :: F) := by
  obtain ⟨q0, q1, q2, q3, h⟩ := h.isArc
  obtain ⟨_, _, c2, c3, _, _⟩ := arcc h
  unfold ArcRaw at h
  have h := hide h
  have hln := hide (show s.t1.length ≤ 1000000 by omega)
  have hla := hide (show s.t2.length ≤ 1000000 by omega)
  have hl := hide (show s.t1.reverse.length + s.t2.reverse.length ≤ 2000000 by rw [List.length_reverse, List.length_reverse]; omega)
  have st := hide (fun w' (k : Keep w w') => And.intro (k.cell c2) (k.cell c3))
  have kq := hide (Keep.refl w).drew
  clear c2 c3
  go_enter Tryz.func111, Tryz.ntmps111
  go_wp2
  go_region_held3 (fun w' => w'.cell? ⟨b, 2, none⟩ = some (.pointer (some ⟨q0, 0, none⟩)) ∧ w'.cell? ⟨b, 3, none⟩ = some (.pointer (some ⟨q1, 0, none⟩))) (first | exact st.out _ kq.out | exact S3.out | exact S2.out)
    ((first
      | (go_at_call 167; (with_reducible refine (List_Keys (Holds.p1 (Holds.drew h.out))).mono ?_); rintro r w1 ⟨v1, rfl, h1⟩; have h1 := hide h1; have S2 := hide (And.intro (Holds.cell (off := 2) (Holds.p2 h1.out) rfl) (Holds.cell (off := 3) (Holds.p2 h1.out) rfl)))
      | (go_at_call 167; (with_reducible refine (List_Keys (Holds.p3 h1.out)).mono ?_); rintro r w2 ⟨v2, rfl, h2⟩; have h2 := hide (Holds.p2 h2); have S3 := hide (And.intro (Holds.cell (off := 2) (Holds.p4 h2.out) rfl) (Holds.cell (off := 3) (Holds.p4 h2.out) rfl)))))
  all_goals
   go_wp2_with (first
    | (go_at_call 168; (with_reducible refine (Rev_strs h2.out hln.out).mono ?_); rintro r w3 ⟨rfl, h3⟩; have h3 := hide (Holds.p1 h3))
    | (go_at_call 168; (with_reducible refine (Rev_strs h3.out hla.out).mono ?_); rintro r w4 ⟨rfl, h4⟩; have h4 := hide (Holds.p1 h4))
    | (at_builtin; refine wpList_append_strs rfl _ _ rfl h4.out hl.out rfl rfl ?_; intro v5 w5 h5; have h5 := hide h5))
   go_ret
   refine ⟨_, rfl, ?_⟩
   have H : Holds g w5 (ArcRaw b q0 q1 q2 q3 s (OwnStrs v5 s.keys :: F)) := by
     unfold ArcRaw
     exact h5.out.p5.p5.p3.p4.p5
   exact (Holds.toArc H).p1
end Go.Proofs.YtbbdimlpofjlfaaGreatDoor
/- arc in memory: Ghosts, Drop. -/
namespace Go.Proofs.YtbbdimlpofjlfaaGreatDoor
open Go Go.RowKit

set_option maxRecDepth 100000
set_option maxHeartbeats 2000000
theorem Arc_Ghosts {g w : World} {b : Nat} {s : Arc} {F : List SProp} (h : Holds g w (IsArc b s :: F)) (hl : s.b1.length + s.b2.length ≤ 2000000) :
    Calls Tryz.prog 112 #[.pointer (some ⟨b, 0, none⟩)] w fun r w' => ∃ v, r = .returned v ∧ Holds g w' (OwnStrs v s.ghosts :: IsArc b s :: F) := by
  obtain ⟨q0, q1, q2, q3, h⟩ := h.isArc
  obtain ⟨_, _, _, _, c4, c5⟩ := arcc h
  unfold ArcRaw at h
  have h := hide h
  replace hl := hide hl
  have st := hide (fun w' (k : Keep w w') => And.intro (k.cell c4) (k.cell c5))
  have kq := hide (Keep.refl w).drew
  clear c4 c5
  go_enter Tryz.func112, Tryz.ntmps112
  go_wp2
  go_region_held3 (fun w' => w'.cell? ⟨b, 4, none⟩ = some (.pointer (some ⟨q2, 0, none⟩)) ∧ w'.cell? ⟨b, 5, none⟩ = some (.pointer (some ⟨q3, 0, none⟩))) (first | exact st.out _ kq.out | exact S4.out | exact S3.out | exact S2.out)
    ((first
      | (go_at_call 167; (with_reducible refine (List_Keys (Holds.p3 (Holds.drew h.out))).mono ?_); rintro r w1 ⟨v1, rfl, h1⟩; have h1 := hide h1; have S2 := hide (And.intro (Holds.cell (off := 4) (Holds.p2 h1.out) rfl) (Holds.cell (off := 5) (Holds.p2 h1.out) rfl)))
      | (go_at_call 167; (with_reducible refine (List_Keys (Holds.p5 h1.out)).mono ?_); rintro r w2 ⟨v2, rfl, h2⟩; have h2 := hide (Holds.p2 h2); have S3 := hide (And.intro (Holds.cell (off := 4) (Holds.p4 h2.out) rfl) (Holds.cell (off := 5) (Holds.p4 h2.out) rfl)))
      | (refine step_append_strs rfl _ _ rfl h2.out hl.out rfl rfl ?_; intro v3 w3 h3; have h3 := hide h3; have S4 := hide (And.intro (Holds.cell (off := 4) (Holds.p3 h3.out) rfl) (Holds.cell (off := 5) (Holds.p3 h3.out) rfl)))))
  all_goals
    go_wp2
    go_ret
    refine ⟨_, rfl, ?_⟩
    have H : Holds g w3 (ArcRaw b q0 q1 q2 q3 s (OwnStrs v3 s.ghosts :: F)) := h3.out.p1.p2.p5.p5.p5
    exact (Holds.toArc H).p1
/-- The victim lies in one of the first rows. -/
theorem Arc.victim_at {s : Arc} {x : ByteArray} (h : s.victim = (x, true)) : s.at x = 0 ∨ s.at x = 1 := by
  have hm : ∀ l : List ByteArray, (kLast l, !l.isEmpty) = (x, true) → x ∈ l := fun l e => by
    rw [Prod.mk.injEq] at e
    rw [← e.1]
    cases l with
    | nil => cases e.2
    | cons y l => exact kLast_mem (by simp)
  unfold Arc.victim at h
  unfold Arc.at
  by_cases h0 : x ∈ s.t1
  · rw [if_pos h0]; exact .inl rfl
  · rw [if_neg h0]
    by_cases h1 : x ∈ s.t2
    · rw [if_pos h1]; exact .inr rfl
    · exfalso
      split at h
      · exact h0 (hm _ h)
      · split at h
        · exact h0 (hm _ h)
        · exact h1 (hm _ h)
theorem Arc_Drop {g w : World} {b : Nat} {s : Arc} {F : List SProp} (h : Holds g w (IsArc b s :: F)) (x : ByteArray) (d : Bool) (hx : s.victim = (x, d)) :
    Calls Tryz.prog 109 #[.pointer (some ⟨b, 0, none⟩)] w fun r w' => r = .returned (.tuple #[.string x, .bool d]) ∧ Holds g w' (IsArc b s.drop :: F) := by
  have cV := hide (Arc_Victim h x d hx)
  cases d with
  | false =>
    have hr : Hide (s.drop = s) := ⟨by unfold Arc.drop; rw [hx]; rfl⟩
    replace h := hide h
    clear hx
    go_enter Tryz.func109, Tryz.ntmps109
    go_wp2_with (go_at_call 108; (with_reducible refine cV.out.mono ?_); rintro r w1 ⟨rfl, k1⟩; have k1 := hide k1)
    go_ret2
    rw [hr.out]
    exact ⟨rfl, h.out.keep k1.out⟩
  | true =>
    have hr : Hide (s.drop = s.off x) := ⟨by unfold Arc.drop; rw [hx]; rfl⟩
    have hq := arcPtrs h
    obtain ⟨q0, q1, q2, q3, c2, c3, _, _⟩ := hq
    rcases Arc.victim_at hx with hi | hi
    · have cA := hide (fun w' (k : Keep w w') => Arc_at (h.keep k) x 0 hi)
      have cR := hide (fun w' (k : Keep w w') => Arc_rowOff (h.keep k) x 0 q0 hi (by omega) (k.cell c2))
      clear hx hi h
      go_enter Tryz.func109, Tryz.ntmps109
      go_upto_region 3 with (go_at_call 108; (with_reducible refine cV.out.mono ?_); rintro r w1 ⟨rfl, k1⟩; have k1 := hide k1)
      have kW := hide k1.out.drew
      go_region_held3 (fun w' => w'.cell? ⟨b, 2, none⟩ = some (.pointer (some ⟨q0, 0, none⟩))) (first | exact kW.out.cell c2 | exact S2.out)
        ((first
          | (go_at_call 182; (with_reducible refine (cA.out _ kW.out).mono ?_); rintro r w2 ⟨rfl, rfl⟩)
          | (go_at_call 164; (with_reducible refine (cR.out _ kW.out).mono ?_); rintro r w3 ⟨rfl, h3, S2⟩; have S2 := hide S2; have h3 := hide h3)))
      all_goals
        go_wp2
        go_ret2
        rw [hr.out]
        exact ⟨rfl, h3.out⟩
    · have cA := hide (fun w' (k : Keep w w') => Arc_at (h.keep k) x 1 hi)
      have cR := hide (fun w' (k : Keep w w') => Arc_rowOff (h.keep k) x 1 q1 hi (by omega) (k.cell c3))
      clear hx hi h
      go_enter Tryz.func109, Tryz.ntmps109
      go_upto_region 3 with (go_at_call 108; (with_reducible refine cV.out.mono ?_); rintro r w1 ⟨rfl, k1⟩; have k1 := hide k1)
      have kW := hide k1.out.drew
      go_region_held3 (fun w' => w'.cell? ⟨b, 3, none⟩ = some (.pointer (some ⟨q1, 0, none⟩))) (first | exact kW.out.cell c3 | exact S2.out)
        ((first
          | (go_at_call 182; (with_reducible refine (cA.out _ kW.out).mono ?_); rintro r w2 ⟨rfl, rfl⟩)
          | (go_at_call 164; (with_reducible refine (cR.out _ kW.out).mono ?_); rintro r w3 ⟨rfl, h3, S2⟩; have S2 := hide S2; have h3 := hide h3)))
      all_goals
        go_wp2
        go_ret2
        rw [hr.out]
        exact ⟨rfl, h3.out⟩
end Go.Proofs.YtbbdimlpofjlfaaGreatDoor
/- arc in memory: Request. -/
namespace Go.Proofs.YtbbdimlpofjlfaaGreatDoor
open Go Go.RowKit

theorem Arc.at_0 {s : Arc} {k : ByteArray} (h : s.at k = 0) : k ∈ s.t1 := by
  unfold Arc.at at h
  by_cases h0 : k ∈ s.t1
  · exact h0
  · rw [if_neg h0] at h
    split at h
    · omega
    split at h
    · omega
    split at h <;> omega
theorem Arc.at_1 {s : Arc} {k : ByteArray} (h : s.at k = 1) : k ∉ s.t1 ∧ k ∈ s.t2 := by
  unfold Arc.at at h
  by_cases h0 : k ∈ s.t1
  · rw [if_pos h0] at h; omega
  · rw [if_neg h0] at h
    by_cases h1 : k ∈ s.t2
    · exact ⟨h0, h1⟩
    · rw [if_neg h1] at h
      split at h
      · omega
      split at h <;> omega
theorem Arc.at_4 {s : Arc} {k : ByteArray} (h : s.at k = 4) : k ∉ s.t1 ∧ k ∉ s.t2 ∧ k ∉ s.b1 ∧ k ∉ s.b2 := by
  unfold Arc.at at h
  by_cases h0 : k ∈ s.t1
  · rw [if_pos h0] at h; omega
  · rw [if_neg h0] at h
    by_cases h1 : k ∈ s.t2
    · rw [if_pos h1] at h; omega
    · rw [if_neg h1] at h
      by_cases h2 : k ∈ s.b1
      · rw [if_pos h2] at h; omega
      · rw [if_neg h2] at h
        by_cases h3 : k ∈ s.b2
        · rw [if_pos h3] at h; omega
        · exact ⟨h0, h1, h2, h3⟩
theorem Arc.room_len (s : Arc) (d : Bool) : (s.room d).1.t1.length ≤ s.t1.length ∧ (s.room d).1.t2.length ≤ s.t2.length := by
  unfold Arc.room
  split
  · exact ⟨Nat.le_refl _, Nat.le_refl _⟩
  · unfold Arc.yield
    split
    · exact ⟨by dsimp only; rw [List.length_dropLast]; omega, Nat.le_refl _⟩
    · split
      · exact ⟨Nat.le_refl _, Nat.le_refl _⟩
      · exact ⟨Nat.le_refl _, by dsimp only; rw [List.length_dropLast]; omega⟩
theorem Arc.fresh_len (s : Arc) : s.fresh.1.t1.length ≤ s.t1.length := by
  unfold Arc.fresh
  split
  · split
    · dsimp only; rw [List.length_dropLast]; omega
    · exact (Arc.room_len _ _).1
  · split
    · exact (Arc.room_len _ _).1
    · split
      · exact Nat.le_refl _
      · exact (Arc.room_len _ _).1
theorem Arc.at_2 {s : Arc} {k : ByteArray} (h : s.at k = 2) : k ∉ s.t1 ∧ k ∉ s.t2 ∧ k ∈ s.b1 := by
  unfold Arc.at at h
  by_cases h0 : k ∈ s.t1
  · rw [if_pos h0] at h; omega
  · rw [if_neg h0] at h
    by_cases h1 : k ∈ s.t2
    · rw [if_pos h1] at h; omega
    · rw [if_neg h1] at h
      by_cases h2 : k ∈ s.b1
      · exact ⟨h0, h1, h2⟩
      · rw [if_neg h2] at h
        split at h <;> omega
theorem Arc.at_3 {s : Arc} {k : ByteArray} (h : s.at k = 3) : k ∉ s.t1 ∧ k ∉ s.t2 ∧ k ∉ s.b1 ∧ k ∈ s.b2 := by
  unfold Arc.at at h
  by_cases h0 : k ∈ s.t1
  · rw [if_pos h0] at h; omega
  · rw [if_neg h0] at h
    by_cases h1 : k ∈ s.t2
    · rw [if_pos h1] at h; omega
    · rw [if_neg h1] at h
      by_cases h2 : k ∈ s.b1
      · rw [if_pos h2] at h; omega
      · rw [if_neg h2] at h
        by_cases h3 : k ∈ s.b2
        · exact ⟨h0, h1, h2, h3⟩
        · rw [if_neg h3] at h; omega
set_option maxRecDepth 100000
set_option maxHeartbeats 8000000
theorem Arc_Request {g w : World} {b : Nat} {s : Arc} {F : List SProp} (h : Holds g w (IsArc b s :: F)) (k : ByteArray) (hl : s.size < 400000) (hmo : s.most ≤ 1000000000 ∧ s.p ≤ 1000000000) :
    Calls Tryz.prog 105 #[.pointer (some ⟨b, 0, none⟩), .string k] w fun r w' => r = .returned (stepV (s.req k).2) ∧ Holds g w' (IsArc b (s.req k).1 :: F) := by
  obtain ⟨i, hi⟩ : ∃ i, s.at k = i := ⟨_, rfl⟩
  obtain ⟨d, hd⟩ : ∃ d, s.has k = d := ⟨_, rfl⟩
  have hd2 : decide (i ≤ 1) = d := by rw [← hi, Arc.at_has]; exact hd
  have HA := (h.alloc (o := .cells #[.bool false, .string ⟨#[]⟩, .bool false] 34)).alloc (o := .cells #[.bool false, .string ⟨#[]⟩, .bool false] 34)
  simp only [World.size_alloc] at HA
  obtain ⟨r4, hr4⟩ : ∃ r, w.heap.size = r := ⟨_, rfl⟩
  obtain ⟨r5, hr5⟩ : ∃ r, r4 + 1 = r := ⟨_, rfl⟩
  rw [hr4, hr5] at HA
  have HB := hide HA.p2
  obtain ⟨res, hres⟩ : ∃ r, s.req k = r := ⟨_, rfl⟩
  rw [hres]
  unfold Arc.req at hres
  obtain ⟨most, hm⟩ : ∃ n, s.most = n := ⟨_, rfl⟩
  replace hl := hide hl
  replace hmo := hide hmo
  replace hd := hide hd
  replace hres := hide hres
  replace hm := hide hm
  clear h HA
  go_enter Tryz.func105, Tryz.ntmps105
  go_upto_region 2 with fail
  try simp only [hr4, hr5]
  generalize (w.alloc (.cells #[.bool false, .string ⟨#[]⟩, .bool false] 34)).alloc (.cells #[.bool false, .string ⟨#[]⟩, .bool false] 34) = W2 at HB ⊢
  clear hr4 hr5
  have cA := hide (Arc_at HB.out k i hi)
  have c0 := arcMost HB.out hm.out
  obtain ⟨t0, t1, t2⟩ := cells3 (Holds.p1 HB.out)
  obtain ⟨g0, g1, g2⟩ := free3 (Holds.p1 HB.out)
  obtain ⟨z0, z1, z2⟩ := cells3 (Holds.p2 HB.out)
  obtain ⟨f0, f1, f2⟩ := free3 (Holds.p2 HB.out)
  by_cases h0 : most = 0
  · have h0' : ((most : Int) == 0) = true := by rw [h0]; rfl
    have hr : Hide (res = (s, ⟨d, bNil, false⟩)) := ⟨by rw [← hres.out, if_pos (hm.out.trans h0), hd.out]⟩
    clear h0
    have HR := put3 (Holds.p2 HB.out) (.bool d) (.string ⟨#[]⟩) (.bool false)
    go_wp2_with (go_at_call 182; (with_reducible refine cA.out.mono ?_); rintro r w1 ⟨rfl, rfl⟩)
    refine bodyPost_ret (ret_step rfl HR rfl) rfl ?_
    rw [hr.out]
    exact ⟨rfl, HR.drop.p1.drop⟩
  · have h0' : ((most : Int) == 0) = false := by rw [beq_eq_false_iff_ne]; omega
    have hn0 := hide (show ¬ s.most = 0 by rw [hm.out]; exact h0)
    clear h0
    have hcases := s.at_cases k
    rw [hi] at hcases
    rcases hcases with rfl | rfl | rfl | rfl | rfl
    · obtain rfl : true = d := by rw [← hd2]; rfl
      have hk := hide (Arc.at_0 hi)
      have HC := (setAt (Holds.p1 HB.out) (off := 0) (v := .bool true) (cs' := #[.bool true, .string ⟨#[]⟩, .bool false]) rfl).p1
      obtain ⟨q0, q1, q2, q3, hR⟩ := HC.isArc
      obtain ⟨_, _, c2, _, _, _⟩ := arcc hR
      have hr : Hide (res = ({ s with t1 := kDel s.t1 k, t2 := kFront s.t2 k }, ⟨true, bNil, false⟩)) := ⟨by rw [← hres.out, if_neg hn0.out, if_pos hk.out]⟩
      have hbf : Hide (s.t2.length < 900000) := ⟨by have := hl.out; unfold Arc.size at this; omega⟩
      have hdk := hide (decide_eq_true hk.out)
      replace hR := hide hR
      clear HC hi
      go_wp2_with (first
        | (go_at_call 182; (with_reducible refine cA.out.mono ?_); rintro r w1 ⟨rfl, rfl⟩)
        | (go_at_call 164; (with_reducible refine (List_Remove (Holds.p1 hR.out) k _ hdk.out).mono ?_); rintro r w3 ⟨rfl, h3⟩; obtain ⟨_, _, _, c3, _, _⟩ := arcc (Holds.p1 h3); have h3 := hide h3)
        | (go_at_call 163; (with_reducible refine (List_Front (Holds.p2 h3.out) k hbf.out).mono ?_); rintro r w4 ⟨rfl, h4⟩; have H5 : Hide (Holds g w4 (IsArc b { s with t1 := kDel s.t1 k, t2 := kFront s.t2 k } :: pts r5 (.cells #[.bool true, .string ⟨#[]⟩, .bool false] 34) :: pts r4 (.cells #[.bool false, .string ⟨#[]⟩, .bool false] 34) :: F)) := ⟨Holds.toArc (q0 := q0) (q1 := q1) (q2 := q2) (q3 := q3) h4.p1.p2⟩; obtain ⟨t0, t1, t2⟩ := cells3 (Holds.p1 H5.out); obtain ⟨z0, z1, z2⟩ := cells3 (Holds.p2 H5.out); obtain ⟨f0, f1, f2⟩ := free3 (Holds.p2 H5.out)))
      have HR := put3 (Holds.p2 H5.out) (.bool true) (.string ⟨#[]⟩) (.bool false)
      refine bodyPost_ret (ret_step rfl HR rfl) rfl ?_
      rw [hr.out]
      exact ⟨rfl, HR.drop.p1.drop⟩
    · obtain rfl : true = d := by rw [← hd2]; rfl
      have hk := hide (Arc.at_1 hi)
      have HC := (setAt (Holds.p1 HB.out) (off := 0) (v := .bool true) (cs' := #[.bool true, .string ⟨#[]⟩, .bool false]) rfl).p1
      obtain ⟨q0, q1, q2, q3, hR⟩ := HC.isArc
      obtain ⟨_, _, _, c3, _, _⟩ := arcc hR
      have hr : Hide (res = ({ s with t2 := kFront (kDel s.t2 k) k }, ⟨true, bNil, false⟩)) := ⟨by rw [← hres.out, if_neg hn0.out, if_neg hk.out.1, if_pos hk.out.2]⟩
      have hbf : Hide ((kDel s.t2 k).length < 900000) := ⟨by have := hl.out; have h2 : (kDel s.t2 k).length ≤ s.t2.length := List.length_filter_le _ _; unfold Arc.size at this; omega⟩
      have hdk := hide (decide_eq_true hk.out.2)
      replace hR := hide hR
      clear HC hi
      go_wp2_with (first
        | (go_at_call 182; (with_reducible refine cA.out.mono ?_); rintro r w1 ⟨rfl, rfl⟩)
        | (go_at_call 164; (with_reducible refine (List_Remove (Holds.p2 hR.out) k _ hdk.out).mono ?_); rintro r w3 ⟨rfl, h3⟩; obtain ⟨_, _, _, c3, _, _⟩ := arcc (Holds.p1 h3); have h3 := hide h3)
        | (go_at_call 163; (with_reducible refine (List_Front (Holds.p0 h3.out) k hbf.out).mono ?_); rintro r w4 ⟨rfl, h4⟩; have H5 : Hide (Holds g w4 (IsArc b { s with t2 := kFront (kDel s.t2 k) k } :: pts r5 (.cells #[.bool true, .string ⟨#[]⟩, .bool false] 34) :: pts r4 (.cells #[.bool false, .string ⟨#[]⟩, .bool false] 34) :: F)) := ⟨Holds.toArc (q0 := q0) (q1 := q1) (q2 := q2) (q3 := q3) h4.p2.p2⟩; obtain ⟨t0, t1, t2⟩ := cells3 (Holds.p1 H5.out); obtain ⟨z0, z1, z2⟩ := cells3 (Holds.p2 H5.out); obtain ⟨f0, f1, f2⟩ := free3 (Holds.p2 H5.out)))
      have HR := put3 (Holds.p2 H5.out) (.bool true) (.string ⟨#[]⟩) (.bool false)
      refine bodyPost_ret (ret_step rfl HR rfl) rfl ?_
      rw [hr.out]
      exact ⟨rfl, HR.drop.p1.drop⟩
    · have hk := hide (Arc.at_2 hi)
      obtain ⟨n2, h2⟩ : ∃ n, s.b1.length = n := ⟨_, rfl⟩
      obtain ⟨n3, h3⟩ : ∃ n, s.b2.length = n := ⟨_, rfl⟩
      obtain ⟨p, hp⟩ : ∃ n, s.p = n := ⟨_, rfl⟩
      have hn2 : 0 < n2 := by rw [← h2]; exact List.length_pos_of_mem hk.out.2.2
      obtain ⟨qo, hqo⟩ : ∃ x, n3 / n2 = x := ⟨_, rfl⟩
      obtain ⟨M, hM⟩ : ∃ x, max 1 qo = x := ⟨_, rfl⟩
      obtain ⟨A, hA⟩ : ∃ x, p + M = x := ⟨_, rfl⟩
      obtain ⟨P, hP⟩ : ∃ x, min most A = x := ⟨_, rfl⟩
      have hqb : qo ≤ n3 := by rw [← hqo]; exact Nat.div_le_self _ _
      have hsz := hl.out
      unfold Arc.size at hsz
      have hmob := hmo.out
      have e0 : ((n2 : Int) == 0) = false := by rw [beq_eq_false_iff_ne]; omega
      have e0n : ¬ (n2 : Int) = 0 := by omega
      have e0m : ¬ n2 = 0 := by omega
      have e1 : (n3 : Int).tdiv (n2 : Int) = (qo : Int) := by rw [← hqo]; rfl
      have e1w : IntKind.i64.wrap ((n3 : Int).tdiv (n2 : Int)) = (qo : Int) := by rw [e1]; exact IntWalk.i64_in _ (by omega)
      have e1q : IntKind.i64.wrap (qo : Int) = (qo : Int) := IntWalk.i64_in _ (by omega)
      have e2 : max (1 : Int) (qo : Int) = (M : Int) := by omega
      have e3 : IntKind.i64.wrap ((p : Int) + (M : Int)) = (A : Int) := by rw [IntWalk.i64_in _ (by omega)]; omega
      have e4 : min (most : Int) (A : Int) = (P : Int) := by omega
      obtain ⟨q0, q1, q2, q3, hR⟩ := HB.out.isArc
      obtain ⟨_, c1, _, _, c4, c5⟩ := arcc hR
      rw [hp] at c1
      have L2 := hide (fun w' (kk : Keep W2 w') => (List_Len ((Holds.p3 hR).keep kk) n2 h2).mono (fun r w2 (hh : r = _ ∧ w' = w2) => (⟨hh.1, hh.2.symm⟩ : r = _ ∧ w2 = w')))
      have L3 := hide (fun w' (kk : Keep W2 w') => (List_Len ((Holds.p4 hR).keep kk) n3 h3).mono (fun r w2 (hh : r = _ ∧ w' = w2) => (⟨hh.1, hh.2.symm⟩ : r = _ ∧ w2 = w')))
      have f1b : W2.frozen? ⟨b, 1, none⟩ = false := Holds.free hR
      have HT := hide (Holds.toArc (s := { s with p := P }) (Holds.setCell (off := 1) (v := .int .i64 (P : Nat)) hR.drew))
      clear hR
      go_upto_region 11 with (go_at_call 182; (with_reducible refine cA.out.mono ?_); rintro r w1 ⟨rfl, rfl⟩)
      go_cut [34] (fun _ wx => Holds g wx (IsArc b { s with p := P } :: pts r5 (.cells #[.bool false, .string ⟨#[]⟩, .bool false] 34) :: pts r4 (.cells #[.bool false, .string ⟨#[]⟩, .bool false] 34) :: F))
      case first =>
        go_still_tail 27, (by kernel_rfl)
        still_call (L3.out _ (Keep.refl W2).drew)
        repeat still_step
        still_call (L2.out _ (Keep.refl W2).drew)
        repeat still_step
        refine wpStill_nil ?_
        change wpList _ _ _ _ _ W2.drew
        go_wp2
        go_meet
        case rel => exact HT.out
      case rest =>
      have HX := hide hcut
      have hrl := Arc.room_len { s with p := P } false
      dsimp only at hrl
      obtain ⟨⟨s1, x, o⟩, hs1⟩ : ∃ q, Arc.room { s with p := P } false = q := ⟨_, rfl⟩
      have cF := Arc_room HX.out false (by dsimp only; omega) (by unfold Arc.len; dsimp only; omega)
      rw [hs1] at cF hrl
      dsimp only at cF hrl
      replace cF := hide cF
      have hbf : Hide (s1.t2.length < 900000) := ⟨by omega⟩
      have hPP : min s.most (s.p + max 1 (s.b2.length / s.b1.length)) = P := by rw [hm.out, hp, h3, h2, hqo, hM, hA, hP]
      have hr : Hide (res = ({ s1 with b1 := kDel s1.b1 k, t2 := kFront s1.t2 k }, ⟨false, x, o⟩)) := ⟨by
        rw [← hres.out, if_neg hn0.out, if_neg hk.out.1, if_neg hk.out.2.1, if_pos hk.out.2.2, hPP]
        try dsimp only
        rw [hs1]⟩
      clear hi hrl hs1 hPP e0n e0m e1w e1q hqo hM hA hP hsz hmob e0 e1 e2 e3 e4 h2 h3 hp hcut L2 L3 HT t0 t1 t2 z0 z1 z2 f0 f1 f2 g0 g1 g2 c1 c4 c5 f1b hn2 hqb
      obtain ⟨t0, t1, t2⟩ := cells3 (Holds.p1 HX.out)
      obtain ⟨g0, g1, g2⟩ := free3 (Holds.p1 HX.out)
      obtain ⟨z0, z1, z2⟩ := cells3 (Holds.p2 HX.out)
      obtain ⟨f0, f1, f2⟩ := free3 (Holds.p2 HX.out)
      go_wp2_with (first
        | (go_at_call 183; (with_reducible refine cF.out.mono ?_); rintro r w3 ⟨rfl, h3⟩; clear t0 t1 t2 z0 z1 z2 f0 f1 f2 g0 g1 g2; obtain ⟨t0, t1, t2⟩ := cells3 (Holds.p1 h3); obtain ⟨g0, g1, g2⟩ := free3 (Holds.p1 h3); have HS := (setAt (setAt (Holds.p1 h3) (off := 1) (v := .string x) (cs' := #[.bool false, .string x, .bool false]) rfl) (off := 2) (v := .bool o) (cs' := #[.bool false, .string x, .bool o]) rfl).p1; obtain ⟨q0, q1, q2, q3, hR⟩ := HS.isArc; obtain ⟨_, _, c2, c3, c4, c5⟩ := arcc hR; have hR := hide hR; clear HS h3)
        | (go_at_call 164; (with_reducible refine (List_Remove (Holds.p3 hR.out) k _ rfl).mono ?_); rintro r w5 ⟨rfl, h5⟩; obtain ⟨_, _, _, c3, _, _⟩ := arcc (Holds.p1 h5); have h5 := hide h5)
        | (go_at_call 163; (with_reducible refine (List_Front (Holds.p3 h5.out) k hbf.out).mono ?_); rintro r w4 ⟨rfl, h4⟩; have H5 : Hide (Holds g w4 (IsArc b { s1 with b1 := kDel s1.b1 k, t2 := kFront s1.t2 k } :: pts r5 (.cells #[.bool false, .string x, .bool o] 34) :: pts r4 (.cells #[.bool false, .string ⟨#[]⟩, .bool false] 34) :: F)) := ⟨Holds.toArc (q0 := q0) (q1 := q1) (q2 := q2) (q3 := q3) h4.p3.p3⟩; obtain ⟨t0, t1, t2⟩ := cells3 (Holds.p1 H5.out); obtain ⟨z0, z1, z2⟩ := cells3 (Holds.p2 H5.out); obtain ⟨f0, f1, f2⟩ := free3 (Holds.p2 H5.out)))
      have HR := put3 (Holds.p2 H5.out) (.bool false) (.string x) (.bool o)
      refine bodyPost_ret (ret_step rfl HR rfl) rfl ?_
      rw [hr.out]
      exact ⟨rfl, HR.drop.p1.drop⟩
    · have hk := hide (Arc.at_3 hi)
      obtain ⟨n2, h2⟩ : ∃ n, s.b1.length = n := ⟨_, rfl⟩
      obtain ⟨n3, h3⟩ : ∃ n, s.b2.length = n := ⟨_, rfl⟩
      obtain ⟨p, hp⟩ : ∃ n, s.p = n := ⟨_, rfl⟩
      have hn2 : 0 < n3 := by rw [← h3]; exact List.length_pos_of_mem hk.out.2.2.2
      obtain ⟨qo, hqo⟩ : ∃ x, n2 / n3 = x := ⟨_, rfl⟩
      obtain ⟨M, hM⟩ : ∃ x, max 1 qo = x := ⟨_, rfl⟩
      obtain ⟨A, hA⟩ : ∃ x : Int, (p : Int) - (M : Int) = x := ⟨_, rfl⟩
      obtain ⟨P, hP⟩ : ∃ x, p - M = x := ⟨_, rfl⟩
      have hqb : qo ≤ n2 := by rw [← hqo]; exact Nat.div_le_self _ _
      have hsz := hl.out
      unfold Arc.size at hsz
      have hmob := hmo.out
      have e0 : ((n3 : Int) == 0) = false := by rw [beq_eq_false_iff_ne]; omega
      have e0n : ¬ (n3 : Int) = 0 := by omega
      have e0m : ¬ n3 = 0 := by omega
      have e1 : (n2 : Int).tdiv (n3 : Int) = (qo : Int) := by rw [← hqo]; rfl
      have e1w : IntKind.i64.wrap ((n2 : Int).tdiv (n3 : Int)) = (qo : Int) := by rw [e1]; exact IntWalk.i64_in _ (by omega)
      have e1q : IntKind.i64.wrap (qo : Int) = (qo : Int) := IntWalk.i64_in _ (by omega)
      have e2 : max (1 : Int) (qo : Int) = (M : Int) := by omega
      have e3 : IntKind.i64.wrap ((p : Int) - (M : Int)) = A := by rw [IntWalk.i64_in _ (by omega)]; exact hA
      have e4 : max (0 : Int) A = (P : Int) := by omega
      obtain ⟨q0, q1, q2, q3, hR⟩ := HB.out.isArc
      obtain ⟨_, c1, _, _, c4, c5⟩ := arcc hR
      rw [hp] at c1
      have L2 := hide (fun w' (kk : Keep W2 w') => (List_Len ((Holds.p3 hR).keep kk) n2 h2).mono (fun r w2 (hh : r = _ ∧ w' = w2) => (⟨hh.1, hh.2.symm⟩ : r = _ ∧ w2 = w')))
      have L3 := hide (fun w' (kk : Keep W2 w') => (List_Len ((Holds.p4 hR).keep kk) n3 h3).mono (fun r w2 (hh : r = _ ∧ w' = w2) => (⟨hh.1, hh.2.symm⟩ : r = _ ∧ w2 = w')))
      have f1b : W2.frozen? ⟨b, 1, none⟩ = false := Holds.free hR
      have HT := hide (Holds.toArc (s := { s with p := P }) (Holds.setCell (off := 1) (v := .int .i64 (P : Nat)) hR.drew))
      clear hR
      go_upto_region 14 with (go_at_call 182; (with_reducible refine cA.out.mono ?_); rintro r w1 ⟨rfl, rfl⟩)
      go_cut [71] (fun _ wx => Holds g wx (IsArc b { s with p := P } :: pts r5 (.cells #[.bool false, .string ⟨#[]⟩, .bool false] 34) :: pts r4 (.cells #[.bool false, .string ⟨#[]⟩, .bool false] 34) :: F))
      case first =>
        go_still_tail 23, (by kernel_rfl)
        still_call (L2.out _ (Keep.refl W2).drew)
        repeat still_step
        still_call (L3.out _ (Keep.refl W2).drew)
        repeat still_step
        refine wpStill_nil ?_
        change wpList _ _ _ _ _ W2.drew
        go_wp2
        go_meet
        case rel => first | exact HT.out | (rw [e4]; exact HT.out)
      case rest =>
      have HX := hide hcut
      have hrl := Arc.room_len { s with p := P } true
      dsimp only at hrl
      obtain ⟨⟨s1, x, o⟩, hs1⟩ : ∃ q, Arc.room { s with p := P } true = q := ⟨_, rfl⟩
      have cF := Arc_room HX.out true (by dsimp only; omega) (by unfold Arc.len; dsimp only; omega)
      rw [hs1] at cF hrl
      dsimp only at cF hrl
      replace cF := hide cF
      have hbf : Hide (s1.t2.length < 900000) := ⟨by omega⟩
      have hPP : s.p - max 1 (s.b1.length / s.b2.length) = P := by rw [hp, h3, h2, hqo, hM, hP]
      have hr : Hide (res = ({ s1 with b2 := kDel s1.b2 k, t2 := kFront s1.t2 k }, ⟨false, x, o⟩)) := ⟨by
        rw [← hres.out, if_neg hn0.out, if_neg hk.out.1, if_neg hk.out.2.1, if_neg hk.out.2.2.1, if_pos hk.out.2.2.2, hPP]
        try dsimp only
        rw [hs1]⟩
      clear hi hrl hs1 hPP e0n e0m e1w e1q hqo hM hA hP hsz hmob e0 e1 e2 e3 e4 h2 h3 hp hcut L2 L3 HT t0 t1 t2 z0 z1 z2 f0 f1 f2 g0 g1 g2 c1 c4 c5 f1b hn2 hqb
      obtain ⟨t0, t1, t2⟩ := cells3 (Holds.p1 HX.out)
      obtain ⟨g0, g1, g2⟩ := free3 (Holds.p1 HX.out)
      obtain ⟨z0, z1, z2⟩ := cells3 (Holds.p2 HX.out)
      obtain ⟨f0, f1, f2⟩ := free3 (Holds.p2 HX.out)
      go_wp2_with (first
        | (go_at_call 183; (with_reducible refine cF.out.mono ?_); rintro r w3 ⟨rfl, h3⟩; clear t0 t1 t2 z0 z1 z2 f0 f1 f2 g0 g1 g2; obtain ⟨t0, t1, t2⟩ := cells3 (Holds.p1 h3); obtain ⟨g0, g1, g2⟩ := free3 (Holds.p1 h3); have HS := (setAt (setAt (Holds.p1 h3) (off := 1) (v := .string x) (cs' := #[.bool false, .string x, .bool false]) rfl) (off := 2) (v := .bool o) (cs' := #[.bool false, .string x, .bool o]) rfl).p1; obtain ⟨q0, q1, q2, q3, hR⟩ := HS.isArc; obtain ⟨_, _, c2, c3, c4, c5⟩ := arcc hR; have hR := hide hR; clear HS h3)
        | (go_at_call 164; (with_reducible refine (List_Remove (Holds.p4 hR.out) k _ rfl).mono ?_); rintro r w5 ⟨rfl, h5⟩; obtain ⟨_, _, _, c3, _, _⟩ := arcc (Holds.p1 h5); have h5 := hide h5)
        | (go_at_call 163; (with_reducible refine (List_Front (Holds.p3 h5.out) k hbf.out).mono ?_); rintro r w4 ⟨rfl, h4⟩; have H5 : Hide (Holds g w4 (IsArc b { s1 with b2 := kDel s1.b2 k, t2 := kFront s1.t2 k } :: pts r5 (.cells #[.bool false, .string x, .bool o] 34) :: pts r4 (.cells #[.bool false, .string ⟨#[]⟩, .bool false] 34) :: F)) := ⟨Holds.toArc (q0 := q0) (q1 := q1) (q2 := q2) (q3 := q3) h4.p4.p1.p4.p4⟩; obtain ⟨t0, t1, t2⟩ := cells3 (Holds.p1 H5.out); obtain ⟨z0, z1, z2⟩ := cells3 (Holds.p2 H5.out); obtain ⟨f0, f1, f2⟩ := free3 (Holds.p2 H5.out)))
      have HR := put3 (Holds.p2 H5.out) (.bool false) (.string x) (.bool o)
      refine bodyPost_ret (ret_step rfl HR rfl) rfl ?_
      rw [hr.out]
      exact ⟨rfl, HR.drop.p1.drop⟩
    · have hk := hide (Arc.at_4 hi)
      have hfl := s.fresh_len
      obtain ⟨⟨s1, x, o⟩, hs1⟩ : ∃ q, s.fresh = q := ⟨_, rfl⟩
      have cF := Arc_fresh HB.out hl.out hmo.out.1
      rw [hs1] at cF hfl
      dsimp only at cF hfl
      replace cF := hide cF
      have hbf : Hide (s1.t1.length < 900000) := ⟨by have := hl.out; unfold Arc.size at this; omega⟩
      have hr : Hide (res = ({ s1 with t1 := kFront s1.t1 k }, ⟨false, x, o⟩)) := ⟨by
        rw [← hres.out, if_neg hn0.out, if_neg hk.out.1, if_neg hk.out.2.1, if_neg hk.out.2.2.1, if_neg hk.out.2.2.2]
        dsimp only
        rw [hs1]⟩
      clear hi hfl hs1
      go_wp2_with (first
        | (go_at_call 182; (with_reducible refine cA.out.mono ?_); rintro r w1 ⟨rfl, rfl⟩)
        | (go_at_call 184; (with_reducible refine cF.out.mono ?_); rintro r w3 ⟨rfl, h3⟩; clear t0 t1 t2 z0 z1 z2 f0 f1 f2 g0 g1 g2; obtain ⟨t0, t1, t2⟩ := cells3 (Holds.p1 h3); obtain ⟨g0, g1, g2⟩ := free3 (Holds.p1 h3); have HS := (setAt (setAt (Holds.p1 h3) (off := 1) (v := .string x) (cs' := #[.bool false, .string x, .bool false]) rfl) (off := 2) (v := .bool o) (cs' := #[.bool false, .string x, .bool o]) rfl).p1; obtain ⟨q0, q1, q2, q3, hR⟩ := HS.isArc; obtain ⟨_, _, c2, c3, c4, c5⟩ := arcc hR; have hR := hide hR; clear HS h3)
        | (go_at_call 163; (with_reducible refine (List_Front (Holds.p1 hR.out) k hbf.out).mono ?_); rintro r w4 ⟨rfl, h4⟩; have H5 : Hide (Holds g w4 (IsArc b { s1 with t1 := kFront s1.t1 k } :: pts r5 (.cells #[.bool false, .string x, .bool o] 34) :: pts r4 (.cells #[.bool false, .string ⟨#[]⟩, .bool false] 34) :: F)) := ⟨Holds.toArc (q0 := q0) (q1 := q1) (q2 := q2) (q3 := q3) h4.p1⟩; obtain ⟨t0, t1, t2⟩ := cells3 (Holds.p1 H5.out); obtain ⟨z0, z1, z2⟩ := cells3 (Holds.p2 H5.out); obtain ⟨f0, f1, f2⟩ := free3 (Holds.p2 H5.out)))
      have HR := put3 (Holds.p2 H5.out) (.bool false) (.string x) (.bool o)
      refine bodyPost_ret (ret_step rfl HR rfl) rfl ?_
      rw [hr.out]
      exact ⟨rfl, HR.drop.p1.drop⟩
end Go.Proofs.YtbbdimlpofjlfaaGreatDoor
/- arc in memory: New. -/
namespace Go.Proofs.YtbbdimlpofjlfaaGreatDoor
open Go Go.RowKit

set_option maxRecDepth 100000
set_option maxHeartbeats 2000000
theorem Arc_New {g w : World} {F : List SProp} (h : Holds g w F) (m : Nat) (hm : m ≤ 1000000000) :
    Calls Tryz.prog 102 #[.int .i64 (m : Nat)] w fun r w' => ∃ b, r = .returned (.pointer (some ⟨b, 0, none⟩)) ∧ Holds g w' (IsArc b (Arc.new m) :: F) := by
  have hc := hide h
  have f1 : max (m : Int) 0 = m := by omega
  clear h
  go_enter Tryz.func102, Tryz.ntmps102
  go_wp2_with (first
    | (go_at_call 67; (with_reducible refine (List_New hc.out).mono ?_); rintro r w1 ⟨l0, rfl, h1⟩; have h1 := hide h1)
    | (go_at_call 67; (with_reducible refine (List_New h1.out).mono ?_); rintro r w2 ⟨l1, rfl, h2⟩; have h2 := hide h2)
    | (go_at_call 67; (with_reducible refine (List_New h2.out).mono ?_); rintro r w3 ⟨l2, rfl, h3⟩; have h3 := hide h3)
    | (go_at_call 67; (with_reducible refine (List_New h3.out).mono ?_); rintro r w4 ⟨l3, rfl, h4⟩; have h4 := hide h4))
  go_ret
  have H := h4.out.alloc (o := .cells #[.int .i64 (m : Nat), .int .i64 0, .pointer (some ⟨l0, 0, none⟩), .pointer (some ⟨l1, 0, none⟩), .pointer (some ⟨l2, 0, none⟩), .pointer (some ⟨l3, 0, none⟩)] 262)
  refine ⟨_, rfl, ?_⟩
  exact Holds.toArc (q0 := l0) (q1 := l1) (q2 := l2) (q3 := l3) (s := Arc.new m) H.p2.p3.p4.p3
end Go.Proofs.YtbbdimlpofjlfaaGreatDoor
