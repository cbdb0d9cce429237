/- arc in memory: fresh. -/
import Derived.Test.YtbbdimlpofjlfaaGreatDoorQTwArc
import Derived.Test.YtbbdimlpofjlfaaGreatDoorQQuiet
import Derived.Deep.DeepCutAuto
import Derived.Deep.RegionHeld3
namespace Go.Proofs.YtbbdimlpofjlfaaGreatDoor
open Go Go.RowKit

set_option maxRecDepth 100000
set_option maxHeartbeats 4000000
def o02 : Obj := .cells #[.int .i64 0, .int .i64 2] 3
def o4 : Obj := .cells #[.int .i64 0, .int .i64 1, .int .i64 2, .int .i64 3] 3
theorem arcMost {g w : World} {b most : Nat} {s : Arc} {F : List SProp} (h : Holds g w (IsArc b s :: F)) (hm : s.most = most) : w.cell? ⟨b, 0, none⟩ = some (.int .i64 (most : Nat)) := by
  obtain ⟨_, _, _, _, hR⟩ := h.isArc
  have := (arcc hR).1
  rw [hm] at this
  exact this
theorem step_slice02 {ops : Array Oper} {o : Oper} {a : Act} {g w : World} {F : List SProp} {K : Act → World → Prop} {Q : Exit → Act → World → Prop} {E : Prop} (hg : o.guard = none) (d : Nat) (hd : o.dst = some d) (hop : o.op = .buildSlice 238 2 #[(0, .const (.int .i64 0)), (1, .const (.int .i64 2))]) (h : Holds g w F)
    (hK : ∀ x w', Holds g w' (pts x (.cells #[.int .i64 0, .int .i64 2] 3) :: F) → K (a.put (some d) (.slice (some ⟨x, 0, none⟩) 2 2)) w') : if Region.wanted o (yielded ops a.tmps) = true then Oper.wp Tryz.prog o a w K Q else E := by
  have hw : Region.wanted o (yielded ops a.tmps) = true := by simp [Region.wanted, hg]
  rw [if_pos hw]
  have H := h.alloc (o := .cells #[.int .i64 0, .int .i64 2] 3)
  unfold Oper.wp
  simp [execOp, hop]
  go_simp
  exact hK _ _ H
theorem Arc_fresh {g w : World} {b : Nat} {s : Arc} {F : List SProp} (h : Holds g w (IsArc b s :: F)) (hl : s.size < 400000) (hmo : s.most ≤ 1000000000) :
    Calls Tryz.prog 184 #[.pointer (some ⟨b, 0, none⟩)] w fun r w' => r = .returned (.tuple #[.string s.fresh.2.1, .bool s.fresh.2.2]) ∧ Holds g w' (IsArc b s.fresh.1 :: F) := by
  obtain ⟨res, hres⟩ : ∃ r, s.fresh = r := ⟨_, rfl⟩
  rw [hres]
  unfold Arc.fresh at hres
  obtain ⟨most, hm⟩ : ∃ n, s.most = n := ⟨_, rfl⟩
  obtain ⟨n0, h0⟩ : ∃ n, s.t1.length = n := ⟨_, rfl⟩
  obtain ⟨n02, h02⟩ : ∃ n, s.t1.length + s.b1.length = n := ⟨_, rfl⟩
  obtain ⟨sz, hsz⟩ : ∃ n, s.size = n := ⟨_, rfl⟩
  have hb : n0 ≤ n02 ∧ n02 ≤ sz := by unfold Arc.size at hsz; omega
  rw [h02, h0, hsz] at hres
  rw [hsz] at hl
  rw [hm] at hmo
  have cA := hide (fun (w' : World) (q : Nat) (L : List SProp) (hw : Holds g w' (pts q (.cells #[.int .i64 0, .int .i64 2] 3) :: IsArc b s :: L)) => Arc_all02 (Holds.p1 hw) q (Holds.cell hw rfl) (Holds.cell hw rfl) n02 h02 (by omega))
  have cB := hide (fun (w' : World) (q : Nat) (L : List SProp) (hw : Holds g w' (pts q (.cells #[.int .i64 0, .int .i64 1, .int .i64 2, .int .i64 3] 3) :: IsArc b s :: L)) => Arc_all4 (Holds.p1 hw) q (Holds.cell hw rfl) (Holds.cell hw rfl) (Holds.cell hw rfl) (Holds.cell hw rfl) sz hsz (by omega))
  obtain ⟨q0, q1, q2, q3, hR⟩ := h.isArc
  obtain ⟨c0, _, c2, _, _, _⟩ := arcc hR
  rw [hm] at c0
  have cN := hide (fun (w' : World) (k : Keep w w') => List_Len ((Holds.p1 hR).keep k) n0 h0)
  have S0 := hide (And.intro c0 c2)
  have HA := hide (h.alloc (o := .cells #[.int .i64 0, .int .i64 2] 3)).drew
  have k0 := hide ((Keep.refl w).alloc (o := .cells #[.int .i64 0, .int .i64 2] 3)).drew
  replace h := hide h
  clear hR c0 c2
  by_cases g1 : most ≤ n02
  · have g1' : (most : Int) ≤ n02 := by omega
    have g1d : decide ((most : Int) ≤ n02) = true := decide_eq_true g1'
    rw [if_pos (show s.most ≤ n02 by omega)] at hres
    by_cases g2 : most ≤ n0
    · have g2' : (most : Int) ≤ n0 := by omega
      have g2d : decide ((most : Int) ≤ n0) = true := decide_eq_true g2'
      rw [if_pos (show s.most ≤ n0 by omega)] at hres
      replace hres := hide hres
      clear hb hl g1 g2
      go_enter Tryz.func184, Tryz.ntmps184
      go_upto_region 1 with fail
      go_cut [4] (fun v wx => v = .bool true ∧ Holds g wx (IsArc b s :: F))
      case first =>
        go_region_held3 (fun w' => w'.cell? ⟨b, 0, none⟩ = some (.int .i64 (most : Nat)) ∧ w'.cell? ⟨b, 2, none⟩ = some (.pointer (some ⟨q0, 0, none⟩))) (first | exact S0.out | exact ⟨k0.out.cell S0.out.1, k0.out.cell S0.out.2⟩)
          ((first
            | (go_at_call 234; (with_reducible refine (cA.out _ _ _ HA.out).mono ?_); rintro r w1 ⟨rfl, rfl⟩)
            | (go_at_call 161; (with_reducible refine (cN.out _ k0.out).mono ?_); rintro r w1 ⟨rfl, rfl⟩)))
        all_goals
          go_wp2
          go_meet
          case rel => exact ⟨rfl, HA.out.drop⟩
      case rest =>
        obtain ⟨rfl, hc⟩ := hcut
        obtain ⟨q0', q1', q2', q3', hR⟩ := hc.isArc
        obtain ⟨_, _, c2, _, _, _⟩ := arcc hR
        obtain ⟨x, hx⟩ : ∃ x, kLast s.t1 = x := ⟨_, rfl⟩
        obtain ⟨d, hd⟩ : ∃ d, (!s.t1.isEmpty) = d := ⟨_, rfl⟩
        have cP := hide (List_Pop (Holds.p1 hR) x hx d hd)
        rw [hx, hd] at hres
        replace hx := hide hx
        replace hd := hide hd
        clear hR hc
        go_wp2_with (go_at_call 162; (with_reducible refine cP.out.mono ?_); rintro r w2 ⟨rfl, h2⟩; have h2 := hide h2)
        go_ret2
        rw [← hres.out]
        exact ⟨rfl, Holds.toArc (q0 := q0') (q1 := q1') (q2 := q2') (q3 := q3') (s := { s with t1 := s.t1.dropLast }) h2.out.p1⟩
    · have g2' : ¬ (most : Int) ≤ n0 := by omega
      have g2d : decide ((most : Int) ≤ n0) = false := decide_eq_false g2'
      rw [if_neg (show ¬ s.most ≤ n0 by omega)] at hres
      have hm : Hide (s.most = most) := ⟨hm⟩
      have g2h := hide (decide_eq_false g2)
      obtain ⟨s1, hs1⟩ : ∃ s1 : Arc, ({ s with b1 := s.b1.dropLast } : Arc) = s1 := ⟨_, rfl⟩
      rw [hs1] at hres
      have hb1 : Hide (s1.b1.length < 900000 ∧ s1.b2.length < 900000 ∧ s1.len < 1000000) := ⟨by
        rw [← hs1]
        unfold Arc.size at hsz
        unfold Arc.len
        dsimp only
        rw [List.length_dropLast]
        omega⟩
      replace hres := hide hres
      replace hs1 := hide hs1
      clear hb hl g1 g2
      go_enter Tryz.func184, Tryz.ntmps184
      go_upto_region 1 with fail
      go_cut [4] (fun v wx => v = .bool false ∧ Holds g wx (IsArc b s :: F))
      case first =>
        go_region_held3 (fun w' => w'.cell? ⟨b, 0, none⟩ = some (.int .i64 (most : Nat)) ∧ w'.cell? ⟨b, 2, none⟩ = some (.pointer (some ⟨q0, 0, none⟩))) (first | exact S0.out | exact ⟨k0.out.cell S0.out.1, k0.out.cell S0.out.2⟩)
          ((first
            | (go_at_call 234; (with_reducible refine (cA.out _ _ _ HA.out).mono ?_); rintro r w1 ⟨rfl, rfl⟩)
            | (go_at_call 161; (with_reducible refine (cN.out _ k0.out).mono ?_); rintro r w1 ⟨rfl, rfl⟩)))
        all_goals
          go_wp2
          go_meet
          case rel => exact ⟨by first | rfl | rw [g2h.out], HA.out.drop⟩
      case rest =>
      obtain ⟨rfl, hc⟩ := hcut
      replace hc := hide hc
      clear S0 HA k0 cN
      go_upto_region 3 with fail
      have S0 := hide (arcMost hc.out hm.out)
      have HA := hide (hc.out.alloc (o := .cells #[.int .i64 0, .int .i64 2] 3)).drew
      go_cut [34] (fun v wx => v = .bool true ∧ Holds g wx (IsArc b s :: F))
      case first =>
        go_region_held3 (fun w' => w'.cell? ⟨b, 0, none⟩ = some (.int .i64 (most : Nat))) (first | exact S0.out | exact arcMost (Holds.p1 HA.out) hm.out)
          ((first | (go_at_call 234; (with_reducible refine (cA.out _ _ _ HA.out).mono ?_); rintro r w1 ⟨rfl, rfl⟩)))
        all_goals
          go_wp2
          go_meet
          case rel => exact ⟨by first | rfl | exact congrArg Value.bool (decide_eq_false (by omega)) | exact congrArg Value.bool (decide_eq_true (by omega)), HA.out.drop⟩
      case rest =>
      obtain ⟨rfl, hc⟩ := hcut
      replace hc := hide hc
      clear S0 HA
      obtain ⟨q0', q1', q2', q3', hR⟩ := hc.out.isArc
      obtain ⟨_, _, _, _, c4, _⟩ := arcc hR
      have cP := hide (List_Pop (Holds.p3 hR) (kLast s.b1) rfl (!s.b1.isEmpty) rfl)
      clear hR
      go_wp2_with (first
        | (go_at_call 162; (with_reducible refine cP.out.mono ?_); rintro r w2 ⟨rfl, h2⟩; have h3 : Hide (Holds g w2 (IsArc b s1 :: F)) := ⟨by rw [← hs1.out]; exact Holds.toArc (q0 := q0') (q1 := q1') (q2 := q2') (q3 := q3') (s := { s with b1 := s.b1.dropLast }) h2.p3.p3.p3⟩)
        | (go_at_call 183; (with_reducible refine (Arc_room h3.out false ⟨hb1.out.1, hb1.out.2.1⟩ hb1.out.2.2).mono ?_); rintro r w4 ⟨rfl, h4⟩; have h4 := hide h4))
      go_ret2
      rw [← hres.out]
      exact ⟨rfl, h4.out⟩
  · have g1' : ¬ (most : Int) ≤ n02 := by omega
    have g1d : decide ((most : Int) ≤ n02) = false := decide_eq_false g1'
    rw [if_neg (show ¬ s.most ≤ n02 by omega)] at hres
    have hm : Hide (s.most = most) := ⟨hm⟩
    have hszl : Hide (s.b1.length < 900000 ∧ s.b2.length < 900000 ∧ s.len < 1000000) := ⟨by
      unfold Arc.size at hsz
      unfold Arc.len
      omega⟩
    obtain ⟨df, hdf⟩ : ∃ x : Int, (sz : Int) - (most : Int) = x := ⟨_, rfl⟩
    have e5 : IntKind.i64.wrap ((sz : Int) - (most : Int)) = df := by rw [IntWalk.i64_in _ (by omega)]; exact hdf
    have g1h := hide (decide_eq_false g1)
    rcases (show most + most ≤ sz ∨ (¬ most + most ≤ sz ∧ sz < most) ∨ (¬ most + most ≤ sz ∧ ¬ sz < most) by omega) with g3 | ⟨g3, g4⟩ | ⟨g3, g4⟩
    · have g3' : (most : Int) ≤ df := by omega
      have g3d : decide ((most : Int) ≤ df) = true := decide_eq_true g3'
      rw [if_pos (show s.most + s.most ≤ sz by rw [hm.out]; exact g3)] at hres
      obtain ⟨s1, hs1⟩ : ∃ s1 : Arc, ({ s with b2 := s.b2.dropLast } : Arc) = s1 := ⟨_, rfl⟩
      rw [hs1] at hres
      have hb1 : Hide (s1.b1.length < 900000 ∧ s1.b2.length < 900000 ∧ s1.len < 1000000) := ⟨by
        rw [← hs1]
        have h3 := hszl.out
        unfold Arc.len at h3 ⊢
        dsimp only
        rw [List.length_dropLast]
        omega⟩
      replace hres := hide hres
      replace hs1 := hide hs1
      clear hb hl g1 g3 hdf hsz h02 h0
      go_enter Tryz.func184, Tryz.ntmps184
      go_upto_region 1 with fail
      go_cut [4] (fun v wx => v = .bool false ∧ Holds g wx (IsArc b s :: F))
      case first =>
          have H0 := hide h.out.drew
          refine wp_region_held_drew (S := fun w' => w'.cell? ⟨b, 0, none⟩ = some (.int .i64 (most : Nat))) (by kernel_rfl) (arcMost H0.out hm.out) (fun hHeld => ?_)
          (refine wpAnyH_take (i := 0) (v := ?_) rfl (by kernel_rfl) (by kernel_rfl) (by kernel_rfl) (fun _ _ _ h => h) (Or.inl ⟨by kernel_rfl, ?_⟩) (by assumption) ?_; rotate_left; focus (intro w hSw; (try dsimp only at hSw); go_simp; (try with_reducible rfl)); (try simp only [Act.put, List.setIfInBounds_toArray, List.set_cons_zero, List.set_cons_succ]))
          (refine wpAnyH_take (i := 3) (v := ?_) rfl (by kernel_rfl) (by kernel_rfl) (by kernel_rfl) (fun _ _ _ h => h) (Or.inl ⟨by kernel_rfl, ?_⟩) (by assumption) ?_; rotate_left; focus (intro w hSw; (try dsimp only at hSw); go_simp; (try with_reducible rfl)); (try simp only [Act.put, List.setIfInBounds_toArray, List.set_cons_zero, List.set_cons_succ]))
          (refine wpAnyH_take (i := 4) (v := ?_) rfl (by kernel_rfl) (by kernel_rfl) (by kernel_rfl) (fun _ _ _ h => h) (Or.inl ⟨by kernel_rfl, ?_⟩) (by assumption) ?_; rotate_left; focus (intro w hSw; (try dsimp only at hSw); go_simp; (try with_reducible rfl)); (try simp only [Act.put, List.setIfInBounds_toArray, List.set_cons_zero, List.set_cons_succ]))
          (refine wpAnyH_take (i := 5) (v := ?_) rfl (by kernel_rfl) (by kernel_rfl) (by kernel_rfl) (fun _ _ _ h => h) (Or.inl ⟨by kernel_rfl, ?_⟩) (by assumption) ?_; rotate_left; focus (intro w hSw; (try dsimp only at hSw); go_simp; (try with_reducible rfl)); (try simp only [Act.put, List.setIfInBounds_toArray, List.set_cons_zero, List.set_cons_succ]))
          (refine wpAnyH_take (i := 6) (v := ?_) rfl (by kernel_rfl) (by kernel_rfl) (by kernel_rfl) (fun _ _ _ h => h) (Or.inl ⟨by kernel_rfl, ?_⟩) (by assumption) ?_; rotate_left; focus (intro w hSw; (try dsimp only at hSw); go_simp; (try with_reducible rfl)); (try simp only [Act.put, List.setIfInBounds_toArray, List.set_cons_zero, List.set_cons_succ]))
          refine wpAnyH_ready (rs := [1]) (by kernel_rfl) (by simp) ?_
          refine AllReadyH.cons rfl (fun K hK => ?_) AllReadyH.nil
          refine step_slice02 rfl 6 rfl rfl H0.out ?_
          intro q w2 H2
          have H2 := hide H2
          refine hK.out _ _ (arcMost (Holds.p1 H2.out) hm.out) (fun hHeld => ?_)
          clear hK K
          (try simp only [Act.put, List.setIfInBounds_toArray])
          refine wpAnyH_ready (rs := [2]) (by kernel_rfl) (by simp) ?_
          refine AllReadyH.cons rfl (fun K hK => ?_) AllReadyH.nil
          go_simp
          go_at_call 234
          (with_reducible refine (cA.out _ _ _ H2.out).mono ?_)
          rintro r w3 ⟨rfl, rfl⟩
          refine hK.out _ _ (arcMost (Holds.p1 H2.out) hm.out) (fun hHeld => ?_)
          clear hK K
          (try simp only [Act.put, List.setIfInBounds_toArray, List.set_cons_zero, List.set_cons_succ])
          (refine wpAnyH_take (i := 7) (v := ?_) rfl (by kernel_rfl) (by kernel_rfl) (by kernel_rfl) (fun _ _ _ h => h) (Or.inl ⟨by kernel_rfl, ?_⟩) (by assumption) ?_; rotate_left; focus (intro w hSw; (try dsimp only at hSw); go_simp; (try with_reducible rfl)); (try simp only [Act.put, List.setIfInBounds_toArray, List.set_cons_zero, List.set_cons_succ]))
          (refine wpAnyH_take (i := 8) (v := ?_) rfl (by kernel_rfl) (by kernel_rfl) (by kernel_rfl) (fun _ _ _ h => h) (Or.inl ⟨by kernel_rfl, ?_⟩) (by assumption) ?_; rotate_left; focus (intro w hSw; (try dsimp only at hSw); go_simp; (try with_reducible rfl)); (try simp only [Act.put, List.setIfInBounds_toArray, List.set_cons_zero, List.set_cons_succ]))
          (refine wpAnyH_take (i := 9) (v := undef) rfl (by kernel_rfl) (by kernel_rfl) (by kernel_rfl) (fun _ _ _ h => h) (Or.inr ⟨by kernel_rfl, rfl⟩) (by assumption) ?_; (try simp only [Act.put, List.setIfInBounds_toArray]))
          (refine wpAnyH_take (i := 10) (v := undef) rfl (by kernel_rfl) (by kernel_rfl) (by kernel_rfl) (fun _ _ _ h => h) (Or.inr ⟨by kernel_rfl, rfl⟩) (by assumption) ?_; (try simp only [Act.put]))
          (refine wpAnyH_take (i := 11) (v := undef) rfl (by kernel_rfl) (by kernel_rfl) (by kernel_rfl) (fun _ _ _ h => h) (Or.inr ⟨by kernel_rfl, rfl⟩) (by assumption) ?_; (try simp only [Act.put]))
          (refine wpAnyH_take (i := 12) (v := undef) rfl (by kernel_rfl) (by kernel_rfl) (by kernel_rfl) (fun _ _ _ h => h) (Or.inr ⟨by kernel_rfl, rfl⟩) (by assumption) ?_; (try simp only [Act.put]))
          (refine wpAnyH_take (i := 13) (v := undef) rfl (by kernel_rfl) (by kernel_rfl) (by kernel_rfl) (fun _ _ _ h => h) (Or.inr ⟨by kernel_rfl, rfl⟩) (by assumption) ?_; (try simp only [Act.put]))
          (refine wpAnyH_take (i := 14) (v := undef) rfl (by kernel_rfl) (by kernel_rfl) (by kernel_rfl) (fun _ _ _ h => h) (Or.inr ⟨by kernel_rfl, rfl⟩) (by assumption) ?_; (try simp only [Act.put]))
          (refine wpAnyH_take (i := 15) (v := undef) rfl (by kernel_rfl) (by kernel_rfl) (by kernel_rfl) (fun _ _ _ h => h) (Or.inr ⟨by kernel_rfl, rfl⟩) (by assumption) ?_; (try simp only [Act.put]))
          (refine wpAnyH_take (i := 16) (v := undef) rfl (by kernel_rfl) (by kernel_rfl) (by kernel_rfl) (fun _ _ _ h => h) (Or.inr ⟨by kernel_rfl, rfl⟩) (by assumption) ?_; (try simp only [Act.put]))
          (refine wpAnyH_take (i := 17) (v := undef) rfl (by kernel_rfl) (by kernel_rfl) (by kernel_rfl) (fun _ _ _ h => h) (Or.inr ⟨by kernel_rfl, rfl⟩) (by assumption) ?_; (try simp only [Act.put]))
          (refine wpAnyH_take (i := 18) (v := undef) rfl (by kernel_rfl) (by kernel_rfl) (by kernel_rfl) (fun _ _ _ h => h) (Or.inr ⟨by kernel_rfl, rfl⟩) (by assumption) ?_; (try simp only [Act.put]))
          (refine wpAnyH_take (i := 19) (v := undef) rfl (by kernel_rfl) (by kernel_rfl) (by kernel_rfl) (fun _ _ _ h => h) (Or.inr ⟨by kernel_rfl, rfl⟩) (by assumption) ?_; (try simp only [Act.put]))
          (refine wpAnyH_take (i := 20) (v := ?_) rfl (by kernel_rfl) (by kernel_rfl) (by kernel_rfl) (fun _ _ _ h => h) (Or.inl ⟨by kernel_rfl, ?_⟩) (by assumption) ?_; rotate_left; focus (intro w hSw; (try dsimp only at hSw); go_simp; (try with_reducible rfl)); (try simp only [Act.put, List.setIfInBounds_toArray, List.set_cons_zero, List.set_cons_succ]))
          (refine wpAnyH_take (i := 21) (v := ?_) rfl (by kernel_rfl) (by kernel_rfl) (by kernel_rfl) (fun _ _ _ h => h) (Or.inl ⟨by kernel_rfl, ?_⟩) (by assumption) ?_; rotate_left; focus (intro w hSw; (try dsimp only at hSw); go_simp; (try with_reducible rfl)); (try simp only [Act.put, List.setIfInBounds_toArray, List.set_cons_zero, List.set_cons_succ]))
          refine wpAnyH_done (by kernel_rfl) ?_ _
          go_wp2
          go_meet
          case rel => exact ⟨by first | rfl | rw [g1h.out], H2.out.drop⟩
      case rest =>
      obtain ⟨rfl, hc⟩ := hcut
      replace hc := hide hc
      clear S0 HA k0 cN
      go_upto_region 3 with fail
      have S0 := hide (arcMost hc.out hm.out)
      have HA := hide (hc.out.alloc (o := .cells #[.int .i64 0, .int .i64 2] 3)).drew
      go_cut [34] (fun v wx => v = .bool false ∧ Holds g wx (IsArc b s :: F))
      case first =>
        go_region_held3 (fun w' => w'.cell? ⟨b, 0, none⟩ = some (.int .i64 (most : Nat))) (first | exact S0.out | exact arcMost (Holds.p1 HA.out) hm.out)
          ((first | (go_at_call 234; (with_reducible refine (cA.out _ _ _ HA.out).mono ?_); rintro r w1 ⟨rfl, rfl⟩)))
        all_goals
          go_wp2
          go_meet
          case rel => exact ⟨by first | rfl | exact congrArg Value.bool (decide_eq_false (by omega)) | exact congrArg Value.bool (decide_eq_true (by omega)), HA.out.drop⟩
      case rest =>
      obtain ⟨rfl, hc⟩ := hcut
      replace hc := hide hc
      clear S0 HA
      go_upto_region 5 with fail
      have S0 := hide (arcMost hc.out hm.out)
      have HA := hide (hc.out.alloc (o := .cells #[.int .i64 0, .int .i64 1, .int .i64 2, .int .i64 3] 3)).drew
      go_cut [49] (fun v wx => v = .bool true ∧ Holds g wx (IsArc b s :: F))
      case first =>
        go_region_held3 (fun w' => w'.cell? ⟨b, 0, none⟩ = some (.int .i64 (most : Nat))) (first | exact S0.out | exact arcMost (Holds.p1 HA.out) hm.out)
          ((first | (go_at_call 234; (with_reducible refine (cB.out _ _ _ HA.out).mono ?_); rintro r w1 ⟨rfl, rfl⟩)))
        all_goals
          go_wp2
          go_meet
          case rel => exact ⟨by first | rfl | exact congrArg Value.bool (decide_eq_false (by omega)) | exact congrArg Value.bool (decide_eq_true (by omega)), HA.out.drop⟩
      case rest =>
      obtain ⟨rfl, hc⟩ := hcut
      replace hc := hide hc
      clear S0 HA
      obtain ⟨q0', q1', q2', q3', hR⟩ := hc.out.isArc
      obtain ⟨_, _, _, _, _, c5⟩ := arcc hR
      have cP := hide (List_Pop (Holds.p4 hR) (kLast s.b2) rfl (!s.b2.isEmpty) rfl)
      clear hR
      go_wp2_with (first
        | (go_at_call 162; (with_reducible refine cP.out.mono ?_); rintro r w2 ⟨rfl, h2⟩; have h3 : Hide (Holds g w2 (IsArc b s1 :: F)) := ⟨by rw [← hs1.out]; exact Holds.toArc (q0 := q0') (q1 := q1') (q2 := q2') (q3 := q3') (s := { s with b2 := s.b2.dropLast }) h2.p4.p4.p4.p4⟩)
        | (go_at_call 183; (with_reducible refine (Arc_room h3.out false ⟨hb1.out.1, hb1.out.2.1⟩ hb1.out.2.2).mono ?_); rintro r w4 ⟨rfl, h4⟩; have h4 := hide h4))
      go_ret2
      rw [← hres.out]
      exact ⟨rfl, h4.out⟩
    · have g3' : ¬ (most : Int) ≤ df := by omega
      have g3d : decide ((most : Int) ≤ df) = false := decide_eq_false g3'
      have g4' : (sz : Int) < most := by omega
      have g4d : decide ((sz : Int) < most) = true := decide_eq_true g4'
      rw [if_neg (show ¬ s.most + s.most ≤ sz by rw [hm.out]; exact g3), if_pos (show sz < s.most by rw [hm.out]; exact g4)] at hres
      replace hres := hide hres
      clear hb hl g1 g3 g4 hdf hsz h02 h0
      go_enter Tryz.func184, Tryz.ntmps184
      go_upto_region 1 with fail
      go_cut [4] (fun v wx => v = .bool false ∧ Holds g wx (IsArc b s :: F))
      case first =>
          have H0 := hide h.out.drew
          refine wp_region_held_drew (S := fun w' => w'.cell? ⟨b, 0, none⟩ = some (.int .i64 (most : Nat))) (by kernel_rfl) (arcMost H0.out hm.out) (fun hHeld => ?_)
          (refine wpAnyH_take (i := 0) (v := ?_) rfl (by kernel_rfl) (by kernel_rfl) (by kernel_rfl) (fun _ _ _ h => h) (Or.inl ⟨by kernel_rfl, ?_⟩) (by assumption) ?_; rotate_left; focus (intro w hSw; (try dsimp only at hSw); go_simp; (try with_reducible rfl)); (try simp only [Act.put, List.setIfInBounds_toArray, List.set_cons_zero, List.set_cons_succ]))
          (refine wpAnyH_take (i := 3) (v := ?_) rfl (by kernel_rfl) (by kernel_rfl) (by kernel_rfl) (fun _ _ _ h => h) (Or.inl ⟨by kernel_rfl, ?_⟩) (by assumption) ?_; rotate_left; focus (intro w hSw; (try dsimp only at hSw); go_simp; (try with_reducible rfl)); (try simp only [Act.put, List.setIfInBounds_toArray, List.set_cons_zero, List.set_cons_succ]))
          (refine wpAnyH_take (i := 4) (v := ?_) rfl (by kernel_rfl) (by kernel_rfl) (by kernel_rfl) (fun _ _ _ h => h) (Or.inl ⟨by kernel_rfl, ?_⟩) (by assumption) ?_; rotate_left; focus (intro w hSw; (try dsimp only at hSw); go_simp; (try with_reducible rfl)); (try simp only [Act.put, List.setIfInBounds_toArray, List.set_cons_zero, List.set_cons_succ]))
          (refine wpAnyH_take (i := 5) (v := ?_) rfl (by kernel_rfl) (by kernel_rfl) (by kernel_rfl) (fun _ _ _ h => h) (Or.inl ⟨by kernel_rfl, ?_⟩) (by assumption) ?_; rotate_left; focus (intro w hSw; (try dsimp only at hSw); go_simp; (try with_reducible rfl)); (try simp only [Act.put, List.setIfInBounds_toArray, List.set_cons_zero, List.set_cons_succ]))
          (refine wpAnyH_take (i := 6) (v := ?_) rfl (by kernel_rfl) (by kernel_rfl) (by kernel_rfl) (fun _ _ _ h => h) (Or.inl ⟨by kernel_rfl, ?_⟩) (by assumption) ?_; rotate_left; focus (intro w hSw; (try dsimp only at hSw); go_simp; (try with_reducible rfl)); (try simp only [Act.put, List.setIfInBounds_toArray, List.set_cons_zero, List.set_cons_succ]))
          refine wpAnyH_ready (rs := [1]) (by kernel_rfl) (by simp) ?_
          refine AllReadyH.cons rfl (fun K hK => ?_) AllReadyH.nil
          refine step_slice02 rfl 6 rfl rfl H0.out ?_
          intro q w2 H2
          have H2 := hide H2
          refine hK.out _ _ (arcMost (Holds.p1 H2.out) hm.out) (fun hHeld => ?_)
          clear hK K
          (try simp only [Act.put, List.setIfInBounds_toArray])
          refine wpAnyH_ready (rs := [2]) (by kernel_rfl) (by simp) ?_
          refine AllReadyH.cons rfl (fun K hK => ?_) AllReadyH.nil
          go_simp
          go_at_call 234
          (with_reducible refine (cA.out _ _ _ H2.out).mono ?_)
          rintro r w3 ⟨rfl, rfl⟩
          refine hK.out _ _ (arcMost (Holds.p1 H2.out) hm.out) (fun hHeld => ?_)
          clear hK K
          (try simp only [Act.put, List.setIfInBounds_toArray, List.set_cons_zero, List.set_cons_succ])
          (refine wpAnyH_take (i := 7) (v := ?_) rfl (by kernel_rfl) (by kernel_rfl) (by kernel_rfl) (fun _ _ _ h => h) (Or.inl ⟨by kernel_rfl, ?_⟩) (by assumption) ?_; rotate_left; focus (intro w hSw; (try dsimp only at hSw); go_simp; (try with_reducible rfl)); (try simp only [Act.put, List.setIfInBounds_toArray, List.set_cons_zero, List.set_cons_succ]))
          (refine wpAnyH_take (i := 8) (v := ?_) rfl (by kernel_rfl) (by kernel_rfl) (by kernel_rfl) (fun _ _ _ h => h) (Or.inl ⟨by kernel_rfl, ?_⟩) (by assumption) ?_; rotate_left; focus (intro w hSw; (try dsimp only at hSw); go_simp; (try with_reducible rfl)); (try simp only [Act.put, List.setIfInBounds_toArray, List.set_cons_zero, List.set_cons_succ]))
          (refine wpAnyH_take (i := 9) (v := undef) rfl (by kernel_rfl) (by kernel_rfl) (by kernel_rfl) (fun _ _ _ h => h) (Or.inr ⟨by kernel_rfl, rfl⟩) (by assumption) ?_; (try simp only [Act.put, List.setIfInBounds_toArray]))
          (refine wpAnyH_take (i := 10) (v := undef) rfl (by kernel_rfl) (by kernel_rfl) (by kernel_rfl) (fun _ _ _ h => h) (Or.inr ⟨by kernel_rfl, rfl⟩) (by assumption) ?_; (try simp only [Act.put]))
          (refine wpAnyH_take (i := 11) (v := undef) rfl (by kernel_rfl) (by kernel_rfl) (by kernel_rfl) (fun _ _ _ h => h) (Or.inr ⟨by kernel_rfl, rfl⟩) (by assumption) ?_; (try simp only [Act.put]))
          (refine wpAnyH_take (i := 12) (v := undef) rfl (by kernel_rfl) (by kernel_rfl) (by kernel_rfl) (fun _ _ _ h => h) (Or.inr ⟨by kernel_rfl, rfl⟩) (by assumption) ?_; (try simp only [Act.put]))
          (refine wpAnyH_take (i := 13) (v := undef) rfl (by kernel_rfl) (by kernel_rfl) (by kernel_rfl) (fun _ _ _ h => h) (Or.inr ⟨by kernel_rfl, rfl⟩) (by assumption) ?_; (try simp only [Act.put]))
          (refine wpAnyH_take (i := 14) (v := undef) rfl (by kernel_rfl) (by kernel_rfl) (by kernel_rfl) (fun _ _ _ h => h) (Or.inr ⟨by kernel_rfl, rfl⟩) (by assumption) ?_; (try simp only [Act.put]))
          (refine wpAnyH_take (i := 15) (v := undef) rfl (by kernel_rfl) (by kernel_rfl) (by kernel_rfl) (fun _ _ _ h => h) (Or.inr ⟨by kernel_rfl, rfl⟩) (by assumption) ?_; (try simp only [Act.put]))
          (refine wpAnyH_take (i := 16) (v := undef) rfl (by kernel_rfl) (by kernel_rfl) (by kernel_rfl) (fun _ _ _ h => h) (Or.inr ⟨by kernel_rfl, rfl⟩) (by assumption) ?_; (try simp only [Act.put]))
          (refine wpAnyH_take (i := 17) (v := undef) rfl (by kernel_rfl) (by kernel_rfl) (by kernel_rfl) (fun _ _ _ h => h) (Or.inr ⟨by kernel_rfl, rfl⟩) (by assumption) ?_; (try simp only [Act.put]))
          (refine wpAnyH_take (i := 18) (v := undef) rfl (by kernel_rfl) (by kernel_rfl) (by kernel_rfl) (fun _ _ _ h => h) (Or.inr ⟨by kernel_rfl, rfl⟩) (by assumption) ?_; (try simp only [Act.put]))
          (refine wpAnyH_take (i := 19) (v := undef) rfl (by kernel_rfl) (by kernel_rfl) (by kernel_rfl) (fun _ _ _ h => h) (Or.inr ⟨by kernel_rfl, rfl⟩) (by assumption) ?_; (try simp only [Act.put]))
          (refine wpAnyH_take (i := 20) (v := ?_) rfl (by kernel_rfl) (by kernel_rfl) (by kernel_rfl) (fun _ _ _ h => h) (Or.inl ⟨by kernel_rfl, ?_⟩) (by assumption) ?_; rotate_left; focus (intro w hSw; (try dsimp only at hSw); go_simp; (try with_reducible rfl)); (try simp only [Act.put, List.setIfInBounds_toArray, List.set_cons_zero, List.set_cons_succ]))
          (refine wpAnyH_take (i := 21) (v := ?_) rfl (by kernel_rfl) (by kernel_rfl) (by kernel_rfl) (fun _ _ _ h => h) (Or.inl ⟨by kernel_rfl, ?_⟩) (by assumption) ?_; rotate_left; focus (intro w hSw; (try dsimp only at hSw); go_simp; (try with_reducible rfl)); (try simp only [Act.put, List.setIfInBounds_toArray, List.set_cons_zero, List.set_cons_succ]))
          refine wpAnyH_done (by kernel_rfl) ?_ _
          go_wp2
          go_meet
          case rel => exact ⟨by first | rfl | rw [g1h.out], H2.out.drop⟩
      case rest =>
      obtain ⟨rfl, hc⟩ := hcut
      replace hc := hide hc
      clear S0 HA k0 cN
      go_upto_region 3 with fail
      have S0 := hide (arcMost hc.out hm.out)
      have HA := hide (hc.out.alloc (o := .cells #[.int .i64 0, .int .i64 2] 3)).drew
      go_cut [34] (fun v wx => v = .bool false ∧ Holds g wx (IsArc b s :: F))
      case first =>
        go_region_held3 (fun w' => w'.cell? ⟨b, 0, none⟩ = some (.int .i64 (most : Nat))) (first | exact S0.out | exact arcMost (Holds.p1 HA.out) hm.out)
          ((first | (go_at_call 234; (with_reducible refine (cA.out _ _ _ HA.out).mono ?_); rintro r w1 ⟨rfl, rfl⟩)))
        all_goals
          go_wp2
          go_meet
          case rel => exact ⟨by first | rfl | exact congrArg Value.bool (decide_eq_false (by omega)) | exact congrArg Value.bool (decide_eq_true (by omega)), HA.out.drop⟩
      case rest =>
      obtain ⟨rfl, hc⟩ := hcut
      replace hc := hide hc
      clear S0 HA
      go_upto_region 5 with fail
      have S0 := hide (arcMost hc.out hm.out)
      have HA := hide (hc.out.alloc (o := .cells #[.int .i64 0, .int .i64 1, .int .i64 2, .int .i64 3] 3)).drew
      go_cut [49] (fun v wx => v = .bool false ∧ Holds g wx (IsArc b s :: F))
      case first =>
        go_region_held3 (fun w' => w'.cell? ⟨b, 0, none⟩ = some (.int .i64 (most : Nat))) (first | exact S0.out | exact arcMost (Holds.p1 HA.out) hm.out)
          ((first | (go_at_call 234; (with_reducible refine (cB.out _ _ _ HA.out).mono ?_); rintro r w1 ⟨rfl, rfl⟩)))
        all_goals
          go_wp2
          go_meet
          case rel => exact ⟨by first | rfl | exact congrArg Value.bool (decide_eq_false (by omega)) | exact congrArg Value.bool (decide_eq_true (by omega)), HA.out.drop⟩
      case rest =>
      obtain ⟨rfl, hc⟩ := hcut
      replace hc := hide hc
      clear S0 HA
      go_upto_region 7 with fail
      have S0 := hide (arcMost hc.out hm.out)
      have HA := hide (hc.out.alloc (o := .cells #[.int .i64 0, .int .i64 1, .int .i64 2, .int .i64 3] 3)).drew
      go_cut [69] (fun v wx => v = .bool true ∧ Holds g wx (IsArc b s :: F))
      case first =>
        go_region_held3 (fun w' => w'.cell? ⟨b, 0, none⟩ = some (.int .i64 (most : Nat))) (first | exact S0.out | exact arcMost (Holds.p1 HA.out) hm.out)
          ((first | (go_at_call 234; (with_reducible refine (cB.out _ _ _ HA.out).mono ?_); rintro r w1 ⟨rfl, rfl⟩)))
        all_goals
          go_wp2
          go_meet
          case rel => exact ⟨by first | rfl | exact congrArg Value.bool (decide_eq_false (by omega)) | exact congrArg Value.bool (decide_eq_true (by omega)), HA.out.drop⟩
      case rest =>
      obtain ⟨rfl, hc⟩ := hcut
      replace hc := hide hc
      clear S0 HA
      go_wp2
      go_ret2
      rw [← hres.out]
      exact ⟨rfl, hc.out⟩
    · have g3' : ¬ (most : Int) ≤ df := by omega
      have g3d : decide ((most : Int) ≤ df) = false := decide_eq_false g3'
      have g4' : ¬ (sz : Int) < most := by omega
      have g4d : decide ((sz : Int) < most) = false := decide_eq_false g4'
      rw [if_neg (show ¬ s.most + s.most ≤ sz by rw [hm.out]; exact g3), if_neg (show ¬ sz < s.most by rw [hm.out]; exact g4)] at hres
      replace hres := hide hres
      have hg3 := hide g3
      have hg4 := hide g4
      clear hb hl g1 g3 g4 hdf hsz h02 h0
      go_enter Tryz.func184, Tryz.ntmps184
      go_upto_region 1 with fail
      go_cut [4] (fun v wx => v = .bool false ∧ Holds g wx (IsArc b s :: F))
      case first =>
          have H0 := hide h.out.drew
          refine wp_region_held_drew (S := fun w' => w'.cell? ⟨b, 0, none⟩ = some (.int .i64 (most : Nat))) (by kernel_rfl) (arcMost H0.out hm.out) (fun hHeld => ?_)
          (refine wpAnyH_take (i := 0) (v := ?_) rfl (by kernel_rfl) (by kernel_rfl) (by kernel_rfl) (fun _ _ _ h => h) (Or.inl ⟨by kernel_rfl, ?_⟩) (by assumption) ?_; rotate_left; focus (intro w hSw; (try dsimp only at hSw); go_simp; (try with_reducible rfl)); (try simp only [Act.put, List.setIfInBounds_toArray, List.set_cons_zero, List.set_cons_succ]))
          (refine wpAnyH_take (i := 3) (v := ?_) rfl (by kernel_rfl) (by kernel_rfl) (by kernel_rfl) (fun _ _ _ h => h) (Or.inl ⟨by kernel_rfl, ?_⟩) (by assumption) ?_; rotate_left; focus (intro w hSw; (try dsimp only at hSw); go_simp; (try with_reducible rfl)); (try simp only [Act.put, List.setIfInBounds_toArray, List.set_cons_zero, List.set_cons_succ]))
          (refine wpAnyH_take (i := 4) (v := ?_) rfl (by kernel_rfl) (by kernel_rfl) (by kernel_rfl) (fun _ _ _ h => h) (Or.inl ⟨by kernel_rfl, ?_⟩) (by assumption) ?_; rotate_left; focus (intro w hSw; (try dsimp only at hSw); go_simp; (try with_reducible rfl)); (try simp only [Act.put, List.setIfInBounds_toArray, List.set_cons_zero, List.set_cons_succ]))
          (refine wpAnyH_take (i := 5) (v := ?_) rfl (by kernel_rfl) (by kernel_rfl) (by kernel_rfl) (fun _ _ _ h => h) (Or.inl ⟨by kernel_rfl, ?_⟩) (by assumption) ?_; rotate_left; focus (intro w hSw; (try dsimp only at hSw); go_simp; (try with_reducible rfl)); (try simp only [Act.put, List.setIfInBounds_toArray, List.set_cons_zero, List.set_cons_succ]))
          (refine wpAnyH_take (i := 6) (v := ?_) rfl (by kernel_rfl) (by kernel_rfl) (by kernel_rfl) (fun _ _ _ h => h) (Or.inl ⟨by kernel_rfl, ?_⟩) (by assumption) ?_; rotate_left; focus (intro w hSw; (try dsimp only at hSw); go_simp; (try with_reducible rfl)); (try simp only [Act.put, List.setIfInBounds_toArray, List.set_cons_zero, List.set_cons_succ]))
          refine wpAnyH_ready (rs := [1]) (by kernel_rfl) (by simp) ?_
          refine AllReadyH.cons rfl (fun K hK => ?_) AllReadyH.nil
          refine step_slice02 rfl 6 rfl rfl H0.out ?_
          intro q w2 H2
          have H2 := hide H2
          refine hK.out _ _ (arcMost (Holds.p1 H2.out) hm.out) (fun hHeld => ?_)
          clear hK K
          (try simp only [Act.put, List.setIfInBounds_toArray])
          refine wpAnyH_ready (rs := [2]) (by kernel_rfl) (by simp) ?_
          refine AllReadyH.cons rfl (fun K hK => ?_) AllReadyH.nil
          go_simp
          go_at_call 234
          (with_reducible refine (cA.out _ _ _ H2.out).mono ?_)
          rintro r w3 ⟨rfl, rfl⟩
          refine hK.out _ _ (arcMost (Holds.p1 H2.out) hm.out) (fun hHeld => ?_)
          clear hK K
          (try simp only [Act.put, List.setIfInBounds_toArray, List.set_cons_zero, List.set_cons_succ])
          (refine wpAnyH_take (i := 7) (v := ?_) rfl (by kernel_rfl) (by kernel_rfl) (by kernel_rfl) (fun _ _ _ h => h) (Or.inl ⟨by kernel_rfl, ?_⟩) (by assumption) ?_; rotate_left; focus (intro w hSw; (try dsimp only at hSw); go_simp; (try with_reducible rfl)); (try simp only [Act.put, List.setIfInBounds_toArray, List.set_cons_zero, List.set_cons_succ]))
          (refine wpAnyH_take (i := 8) (v := ?_) rfl (by kernel_rfl) (by kernel_rfl) (by kernel_rfl) (fun _ _ _ h => h) (Or.inl ⟨by kernel_rfl, ?_⟩) (by assumption) ?_; rotate_left; focus (intro w hSw; (try dsimp only at hSw); go_simp; (try with_reducible rfl)); (try simp only [Act.put, List.setIfInBounds_toArray, List.set_cons_zero, List.set_cons_succ]))
          (refine wpAnyH_take (i := 9) (v := undef) rfl (by kernel_rfl) (by kernel_rfl) (by kernel_rfl) (fun _ _ _ h => h) (Or.inr ⟨by kernel_rfl, rfl⟩) (by assumption) ?_; (try simp only [Act.put, List.setIfInBounds_toArray]))
          (refine wpAnyH_take (i := 10) (v := undef) rfl (by kernel_rfl) (by kernel_rfl) (by kernel_rfl) (fun _ _ _ h => h) (Or.inr ⟨by kernel_rfl, rfl⟩) (by assumption) ?_; (try simp only [Act.put]))
          (refine wpAnyH_take (i := 11) (v := undef) rfl (by kernel_rfl) (by kernel_rfl) (by kernel_rfl) (fun _ _ _ h => h) (Or.inr ⟨by kernel_rfl, rfl⟩) (by assumption) ?_; (try simp only [Act.put]))
          (refine wpAnyH_take (i := 12) (v := undef) rfl (by kernel_rfl) (by kernel_rfl) (by kernel_rfl) (fun _ _ _ h => h) (Or.inr ⟨by kernel_rfl, rfl⟩) (by assumption) ?_; (try simp only [Act.put]))
          (refine wpAnyH_take (i := 13) (v := undef) rfl (by kernel_rfl) (by kernel_rfl) (by kernel_rfl) (fun _ _ _ h => h) (Or.inr ⟨by kernel_rfl, rfl⟩) (by assumption) ?_; (try simp only [Act.put]))
          (refine wpAnyH_take (i := 14) (v := undef) rfl (by kernel_rfl) (by kernel_rfl) (by kernel_rfl) (fun _ _ _ h => h) (Or.inr ⟨by kernel_rfl, rfl⟩) (by assumption) ?_; (try simp only [Act.put]))
          (refine wpAnyH_take (i := 15) (v := undef) rfl (by kernel_rfl) (by kernel_rfl) (by kernel_rfl) (fun _ _ _ h => h) (Or.inr ⟨by kernel_rfl, rfl⟩) (by assumption) ?_; (try simp only [Act.put]))
          (refine wpAnyH_take (i := 16) (v := undef) rfl (by kernel_rfl) (by kernel_rfl) (by kernel_rfl) (fun _ _ _ h => h) (Or.inr ⟨by kernel_rfl, rfl⟩) (by assumption) ?_; (try simp only [Act.put]))
          (refine wpAnyH_take (i := 17) (v := undef) rfl (by kernel_rfl) (by kernel_rfl) (by kernel_rfl) (fun _ _ _ h => h) (Or.inr ⟨by kernel_rfl, rfl⟩) (by assumption) ?_; (try simp only [Act.put]))
          (refine wpAnyH_take (i := 18) (v := undef) rfl (by kernel_rfl) (by kernel_rfl) (by kernel_rfl) (fun _ _ _ h => h) (Or.inr ⟨by kernel_rfl, rfl⟩) (by assumption) ?_; (try simp only [Act.put]))
          (refine wpAnyH_take (i := 19) (v := undef) rfl (by kernel_rfl) (by kernel_rfl) (by kernel_rfl) (fun _ _ _ h => h) (Or.inr ⟨by kernel_rfl, rfl⟩) (by assumption) ?_; (try simp only [Act.put]))
          (refine wpAnyH_take (i := 20) (v := ?_) rfl (by kernel_rfl) (by kernel_rfl) (by kernel_rfl) (fun _ _ _ h => h) (Or.inl ⟨by kernel_rfl, ?_⟩) (by assumption) ?_; rotate_left; focus (intro w hSw; (try dsimp only at hSw); go_simp; (try with_reducible rfl)); (try simp only [Act.put, List.setIfInBounds_toArray, List.set_cons_zero, List.set_cons_succ]))
          (refine wpAnyH_take (i := 21) (v := ?_) rfl (by kernel_rfl) (by kernel_rfl) (by kernel_rfl) (fun _ _ _ h => h) (Or.inl ⟨by kernel_rfl, ?_⟩) (by assumption) ?_; rotate_left; focus (intro w hSw; (try dsimp only at hSw); go_simp; (try with_reducible rfl)); (try simp only [Act.put, List.setIfInBounds_toArray, List.set_cons_zero, List.set_cons_succ]))
          refine wpAnyH_done (by kernel_rfl) ?_ _
          go_wp2
          go_meet
          case rel => exact ⟨by first | rfl | rw [g1h.out], H2.out.drop⟩
      case rest =>
      obtain ⟨rfl, hc⟩ := hcut
      replace hc := hide hc
      clear S0 HA k0 cN
      go_upto_region 3 with fail
      have S0 := hide (arcMost hc.out hm.out)
      have HA := hide (hc.out.alloc (o := .cells #[.int .i64 0, .int .i64 2] 3)).drew
      go_cut [34] (fun v wx => v = .bool false ∧ Holds g wx (IsArc b s :: F))
      case first =>
        go_region_held3 (fun w' => w'.cell? ⟨b, 0, none⟩ = some (.int .i64 (most : Nat))) (first | exact S0.out | exact arcMost (Holds.p1 HA.out) hm.out)
          ((first | (go_at_call 234; (with_reducible refine (cA.out _ _ _ HA.out).mono ?_); rintro r w1 ⟨rfl, rfl⟩)))
        all_goals
          go_wp2
          go_meet
          case rel => exact ⟨by first | rfl | exact congrArg Value.bool (decide_eq_false (by omega)) | exact congrArg Value.bool (decide_eq_true (by omega)), HA.out.drop⟩
      case rest =>
      obtain ⟨rfl, hc⟩ := hcut
      replace hc := hide hc
      clear S0 HA
      go_upto_region 5 with fail
      have S0 := hide (arcMost hc.out hm.out)
      have HA := hide (hc.out.alloc (o := .cells #[.int .i64 0, .int .i64 1, .int .i64 2, .int .i64 3] 3)).drew
      go_cut [49] (fun v wx => v = .bool false ∧ Holds g wx (IsArc b s :: F))
      case first =>
        go_region_held3 (fun w' => w'.cell? ⟨b, 0, none⟩ = some (.int .i64 (most : Nat))) (first | exact S0.out | exact arcMost (Holds.p1 HA.out) hm.out)
          ((first | (go_at_call 234; (with_reducible refine (cB.out _ _ _ HA.out).mono ?_); rintro r w1 ⟨rfl, rfl⟩)))
        all_goals
          go_wp2
          go_meet
          case rel => exact ⟨by first | rfl | exact congrArg Value.bool (decide_eq_false (by omega)) | exact congrArg Value.bool (decide_eq_true (by omega)), HA.out.drop⟩
      case rest =>
      obtain ⟨rfl, hc⟩ := hcut
      replace hc := hide hc
      clear S0 HA
      go_upto_region 7 with fail
      have S0 := hide (arcMost hc.out hm.out)
      have HA := hide (hc.out.alloc (o := .cells #[.int .i64 0, .int .i64 1, .int .i64 2, .int .i64 3] 3)).drew
      go_cut [69] (fun v wx => v = .bool false ∧ Holds g wx (IsArc b s :: F))
      case first =>
        go_region_held3 (fun w' => w'.cell? ⟨b, 0, none⟩ = some (.int .i64 (most : Nat))) (first | exact S0.out | exact arcMost (Holds.p1 HA.out) hm.out)
          ((first | (go_at_call 234; (with_reducible refine (cB.out _ _ _ HA.out).mono ?_); rintro r w1 ⟨rfl, rfl⟩)))
        all_goals
          go_wp2
          go_meet
          case rel => exact ⟨by first | rfl | exact congrArg Value.bool (decide_eq_false (by omega)) | exact congrArg Value.bool (decide_eq_true (by omega)), HA.out.drop⟩
      case rest =>
      obtain ⟨rfl, hc⟩ := hcut
      replace hc := hide hc
      clear S0 HA
      go_wp2_with (go_at_call 183; (with_reducible refine (Arc_room hc.out false ⟨hszl.out.1, hszl.out.2.1⟩ hszl.out.2.2).mono ?_); rintro r w4 ⟨rfl, h4⟩; have h4 := hide h4)
      go_ret2
      rw [← hres.out]
      exact ⟨rfl, h4.out⟩
end Go.Proofs.YtbbdimlpofjlfaaGreatDoor
