/- arc in memory: are there too many of some rows? -/
import Derived.Test.YtbbdimlpofjlfaaGreatDoorQArc5
import Derived.Deep.LoopGhost
import Derived.Test.YtbbdimlpofjlfaaGreatDoorQLn10
import Derived.StillTailTactics
namespace Go.Proofs.YtbbdimlpofjlfaaGreatDoor
open Go Go.RowKit

set_option maxRecDepth 100000
set_option maxHeartbeats 2000000
theorem Arc_many2 {g w : World} {b cb : Nat} {s : Arc} {F : List SProp} (h : Holds g w (IsArc b s :: pts cb (.cells #[.pointer (some ⟨b, 0, none⟩)] 165) :: F)) (n most : Nat) (hn : s.t1.length + s.b1.length = n) (hl : n < 1000000) (hm : s.most = most) (d : Bool) (hd : decide (most < n) = d) :
    Calls Tryz.prog 236 #[.pointer (some ⟨cb, 0, none⟩)] w fun r w' => r = .returned (.bool d) ∧ Holds g w' (IsArc b s :: pts cb (.cells #[.pointer (some ⟨b, 0, none⟩)] 165) :: F) := by
  have cA := hide (fun (w' : World) (q : Nat) (L : List SProp) (hw : Holds g w' (pts q (.cells #[.int .i64 0, .int .i64 2] 3) :: IsArc b s :: L)) => Arc_all02 (Holds.p1 hw) q (Holds.cell hw rfl) (Holds.cell hw rfl) n hn hl)
  have HA := hide (h.alloc (o := .cells #[.int .i64 0, .int .i64 2] 3)).drew
  have S0 := hide (And.intro (Holds.cell (off := 0) (v := .pointer (some ⟨b, 0, none⟩)) (Holds.p1 h) rfl) (arcMost h hm))
  have S1 := hide (And.intro (Holds.cell (off := 0) (v := .pointer (some ⟨b, 0, none⟩)) (Holds.p2 HA.out) rfl) (arcMost (Holds.p1 HA.out) hm))
  have hd2 : decide ((most : Int) < n) = d := by rw [← hd]; exact decide_eq_decide.2 (by omega)
  replace hm := hide hm
  clear hn hl h
  go_enter Tryz.func236, Tryz.ntmps236
  go_upto_region 1 with fail
  go_region_held3 (fun w' => w'.cell? ⟨cb, 0, none⟩ = some (.pointer (some ⟨b, 0, none⟩)) ∧ w'.cell? ⟨b, 0, none⟩ = some (.int .i64 (most : Nat))) (first | exact S0.out | exact S1.out)
    ((first | (go_at_call 234; (with_reducible refine (cA.out _ _ _ HA.out).mono ?_); rintro r w1 ⟨rfl, rfl⟩)))
  all_goals
    go_wp2
    go_ret
    exact ⟨by first | rfl | rw [hd2] | rw [hd], HA.out.drop⟩
theorem Arc_many3 {g w : World} {b cb : Nat} {s : Arc} {F : List SProp} (h : Holds g w (IsArc b s :: pts cb (.cells #[.pointer (some ⟨b, 0, none⟩)] 165) :: F)) (n most : Nat) (hn : s.size = n) (hl : n < 1000000) (hmb : most ≤ 1000000000) (hm : s.most = most) (d : Bool) (hd : decide (most + most < n) = d) :
    Calls Tryz.prog 237 #[.pointer (some ⟨cb, 0, none⟩)] w fun r w' => r = .returned (.bool d) ∧ Holds g w' (IsArc b s :: pts cb (.cells #[.pointer (some ⟨b, 0, none⟩)] 165) :: F) := by
  have cA := hide (fun (w' : World) (q : Nat) (L : List SProp) (hw : Holds g w' (pts q (.cells #[.int .i64 0, .int .i64 1, .int .i64 2, .int .i64 3] 3) :: IsArc b s :: L)) => Arc_all4 (Holds.p1 hw) q (Holds.cell hw rfl) (Holds.cell hw rfl) (Holds.cell hw rfl) (Holds.cell hw rfl) n hn hl)
  have HA := hide (h.alloc (o := .cells #[.int .i64 0, .int .i64 1, .int .i64 2, .int .i64 3] 3)).drew
  have S0 := hide (And.intro (Holds.cell (off := 0) (v := .pointer (some ⟨b, 0, none⟩)) (Holds.p1 h) rfl) (arcMost h hm))
  have S1 := hide (And.intro (Holds.cell (off := 0) (v := .pointer (some ⟨b, 0, none⟩)) (Holds.p2 HA.out) rfl) (arcMost (Holds.p1 HA.out) hm))
  obtain ⟨df, hdf⟩ : ∃ x : Int, (n : Int) - (most : Int) = x := ⟨_, rfl⟩
  have e1 : IntKind.i64.wrap ((n : Int) - (most : Int)) = df := by rw [IntWalk.i64_in _ (by omega)]; exact hdf
  have hd2 : decide ((most : Int) < df) = d := by rw [← hd]; exact decide_eq_decide.2 (by omega)
  replace hm := hide hm
  replace hd := hide hd
  clear hn hl h hdf
  go_enter Tryz.func237, Tryz.ntmps237
  go_upto_region 1 with fail
  go_region_held3 (fun w' => w'.cell? ⟨cb, 0, none⟩ = some (.pointer (some ⟨b, 0, none⟩)) ∧ w'.cell? ⟨b, 0, none⟩ = some (.int .i64 (most : Nat))) (first | exact S0.out | exact S1.out)
    ((first | (go_at_call 234; (with_reducible refine (cA.out _ _ _ HA.out).mono ?_); rintro r w1 ⟨rfl, rfl⟩)))
  all_goals
    go_wp2
    go_ret
    exact ⟨by first | rfl | rw [hd2], HA.out.drop⟩
end Go.Proofs.YtbbdimlpofjlfaaGreatDoor
/- arc in memory: the ghosts of a row go, while there are too many. -/
namespace Go.Proofs.YtbbdimlpofjlfaaGreatDoor
open Go Go.RowKit

set_option maxRecDepth 100000
set_option maxHeartbeats 4000000
theorem Arc_while2 {g w : World} {b cb : Nat} {s : Arc} {F : List SProp} (h : Holds g w (IsArc b s :: pts cb (.cells #[.pointer (some ⟨b, 0, none⟩)] 165) :: F)) (most : Nat) (hm : s.most = most) (hl : s.size < 400000) :
    Calls Tryz.prog 235 #[.func (.func 236) #[] #[.pointer (some ⟨cb, 0, none⟩)], .int .i64 2, .pointer (some ⟨cb, 0, none⟩)] w fun r w' => r = .returned (.tuple #[]) ∧ Holds g w' (IsArc b { s with b1 := s.b1.take (most - s.t1.length) } :: pts cb (.cells #[.pointer (some ⟨b, 0, none⟩)] 165) :: F) := by
  obtain ⟨n0, h0⟩ : ∃ n, s.t1.length = n := ⟨_, rfl⟩
  obtain ⟨N, hN⟩ : ∃ n, s.b1.length = n := ⟨_, rfl⟩
  have hsz : n0 + N < 400000 := by unfold Arc.size at hl; omega
  rw [h0]
  replace h := hide h
  replace hm := hide hm
  replace hsz := hide hsz
  replace h0 := hide h0
  replace hN := hide hN
  clear hl
  go_enter Tryz.func235, Tryz.ntmps235
  go_wp2
  go_loopg [5] (N) (fun k _ wr => ∃ j, Hide (j = k) ∧ j ≤ N ∧ Hide (j = N ∨ most - n0 ≤ j) ∧ Holds g wr (IsArc b { s with b1 := s.b1.take j } :: pts cb (.cells #[.pointer (some ⟨b, 0, none⟩)] 165) :: F))
  case atStart => exact ⟨N, ⟨rfl⟩, Nat.le_refl _, ⟨.inl rfl⟩, by rw [← hN.out, List.take_length]; exact h.out⟩
  case round =>
    clear h
    obtain ⟨j, hjk, hj, hjm, hh⟩ := hrel
    have hszo := hsz.out
    have h0o := h0.out
    have hNo := hN.out
    have hlj : (s.b1.take j).length = j := by rw [List.length_take]; omega
    obtain ⟨d, hd⟩ : ∃ d, decide (most < n0 + j) = d := ⟨_, rfl⟩
    have cM := hide (Arc_many2 hh (n0 + j) most (by dsimp only; rw [hlj, h0o]) (by omega) hm.out d hd)
    cases d with
    | false =>
      have hjle := of_decide_eq_false hd
      have hr : Hide (s.b1.take j = s.b1.take (most - n0)) := ⟨by
        rcases hjm.out with e | e
        · rw [e, List.take_of_length_le (by omega), List.take_of_length_le (by omega)]
        · rw [show j = most - n0 by omega]⟩
      clear hh hd hjle hszo h0o hNo hlj
      go_wp2_with (go_at_call 236; (with_reducible refine cM.out.mono ?_); rintro r w1 ⟨rfl, h1⟩; have h1 := hide h1)
      go_end0
      refine ⟨rfl, ?_⟩
      rw [← hr.out]
      exact h1.out
    | true =>
      have hjle := of_decide_eq_true hd
      by_cases hj0 : j = 0
      · have hr : Hide (s.b1.take j = s.b1.take (most - n0)) := ⟨by
          rcases hjm.out with e | e
          · rw [hj0, List.take_zero]
            have : s.b1 = [] := List.length_eq_zero_iff.1 (by omega)
            rw [this]
            simp
          · rw [show j = most - n0 by omega]⟩
        have cL := hide (fun (w' : World) (q : Nat) (L : List SProp) (hw : Holds g w' (IsList q (s.b1.take j) :: L)) => List_Len hw 0 (by rw [hlj]; exact hj0))
        clear hh hd hjle hszo h0o hNo hlj hj0
        go_wp2_with (first
          | (go_at_call 236; (with_reducible refine cM.out.mono ?_); rintro r w1 ⟨rfl, h1⟩; have y0 := Holds.cell (off := 0) (v := .pointer (some ⟨b, 0, none⟩)) (Holds.p1 h1) rfl; obtain ⟨q0, q1, q2, q3, hR⟩ := h1.isArc; obtain ⟨_, _, _, _, c4, _⟩ := arcc hR; have hR := hide hR; have h1 := hide h1)
          | (go_at_call 161; (with_reducible refine (cL.out _ _ _ (Holds.p3 hR.out)).mono ?_); rintro r w2 ⟨rfl, rfl⟩))
        go_end0
        refine ⟨rfl, ?_⟩
        rw [← hr.out]
        exact h1.out
      · have hjp : (0 : Int) < j := by omega
        have cL := hide (fun (w' : World) (q : Nat) (L : List SProp) (hw : Holds g w' (IsList q (s.b1.take j) :: L)) => List_Len hw j hlj)
        have hE : (!(s.b1.take j).isEmpty) = true := bnot_isEmpty.2 fun e => by rw [e] at hlj; simp at hlj; omega
        have cP := hide (fun (w' : World) (q : Nat) (L : List SProp) (hw : Holds g w' (IsList q (s.b1.take j) :: L)) => List_Pop hw (kLast (s.b1.take j)) rfl true hE)
        have hdl : Hide ((s.b1.take j).dropLast = s.b1.take (j - 1)) := ⟨by
          obtain ⟨i, rfl⟩ : ∃ i, j = i + 1 := ⟨j - 1, by omega⟩
          rw [List.take_succ_eq_append_getElem (by omega), List.dropLast_concat, Nat.add_sub_cancel]⟩
        have hjm2 : Hide (j - 1 = N ∨ most - n0 ≤ j - 1) := ⟨.inr (by omega)⟩
        have hj1 : Hide (0 < j) := ⟨by omega⟩
        clear hh hd hjle hszo h0o hNo hlj hE hj0
        go_wp2_with (first
          | (go_at_call 236; (with_reducible refine cM.out.mono ?_); rintro r w1 ⟨rfl, h1⟩; have y0 := Holds.cell (off := 0) (v := .pointer (some ⟨b, 0, none⟩)) (Holds.p1 h1) rfl; obtain ⟨q0, q1, q2, q3, hR⟩ := h1.isArc; obtain ⟨_, _, _, _, c4, _⟩ := arcc hR; have hR := hide hR; have h1 := hide h1)
          | (go_at_call 161; (with_reducible refine (cL.out _ _ _ (Holds.p3 hR.out)).mono ?_); rintro r w2 ⟨rfl, rfl⟩)
          | (go_at_call 162; (with_reducible refine (cP.out _ _ _ (Holds.p3 hR.out)).mono ?_); rintro r w3 ⟨rfl, h3⟩; rw [hdl.out] at h3; have h3 := hide h3))
        go_roundg (j - 1)
        case measure => have := hjk.out; have := hj1.out; omega
        case rel => exact ⟨j - 1, ⟨rfl⟩, by omega, hjm2, Holds.toArc (q0 := q0) (q1 := q1) (q2 := q2) (q3 := q3) (s := { s with b1 := s.b1.take (j - 1) }) h3.out.p3.p3.p3⟩
end Go.Proofs.YtbbdimlpofjlfaaGreatDoor
/- arc in memory: the ghosts of the second row go, while there are too many. -/
namespace Go.Proofs.YtbbdimlpofjlfaaGreatDoor
open Go Go.RowKit

set_option maxRecDepth 100000
set_option maxHeartbeats 4000000
theorem Arc_while3 {g w : World} {b cb : Nat} {s : Arc} {F : List SProp} (h : Holds g w (IsArc b s :: pts cb (.cells #[.pointer (some ⟨b, 0, none⟩)] 165) :: F)) (most : Nat) (hm : s.most = most) (hmb : most ≤ 1000000000) (hl : s.size < 400000) :
    Calls Tryz.prog 235 #[.func (.func 237) #[] #[.pointer (some ⟨cb, 0, none⟩)], .int .i64 3, .pointer (some ⟨cb, 0, none⟩)] w fun r w' => r = .returned (.tuple #[]) ∧ Holds g w' (IsArc b { s with b2 := s.b2.take (most + most - (s.t1.length + s.t2.length + s.b1.length)) } :: pts cb (.cells #[.pointer (some ⟨b, 0, none⟩)] 165) :: F) := by
  obtain ⟨n0, h0⟩ : ∃ n, s.t1.length + s.t2.length + s.b1.length = n := ⟨_, rfl⟩
  obtain ⟨N, hN⟩ : ∃ n, s.b2.length = n := ⟨_, rfl⟩
  have hsz : n0 + N < 400000 := by unfold Arc.size at hl; omega
  rw [h0]
  replace h := hide h
  replace hm := hide hm
  replace hmb := hide hmb
  replace hsz := hide hsz
  replace h0 := hide h0
  replace hN := hide hN
  clear hl
  go_enter Tryz.func235, Tryz.ntmps235
  go_wp2
  go_loopg [5] (N) (fun k _ wr => ∃ j, Hide (j = k) ∧ j ≤ N ∧ Hide (j = N ∨ most + most - n0 ≤ j) ∧ Holds g wr (IsArc b { s with b2 := s.b2.take j } :: pts cb (.cells #[.pointer (some ⟨b, 0, none⟩)] 165) :: F))
  case atStart => exact ⟨N, ⟨rfl⟩, Nat.le_refl _, ⟨.inl rfl⟩, by rw [← hN.out, List.take_length]; exact h.out⟩
  case round =>
    clear h
    obtain ⟨j, hjk, hj, hjm, hh⟩ := hrel
    have hszo := hsz.out
    have h0o := h0.out
    have hNo := hN.out
    have hlj : (s.b2.take j).length = j := by rw [List.length_take]; omega
    obtain ⟨d, hd⟩ : ∃ d, decide (most + most < n0 + j) = d := ⟨_, rfl⟩
    have cM := hide (Arc_many3 hh (n0 + j) most (by unfold Arc.size; dsimp only; rw [hlj, h0o]) (by omega) hmb.out hm.out d hd)
    cases d with
    | false =>
      have hjle := of_decide_eq_false hd
      have hr : Hide (s.b2.take j = s.b2.take (most + most - n0)) := ⟨by
        rcases hjm.out with e | e
        · rw [e, List.take_of_length_le (by omega), List.take_of_length_le (by omega)]
        · rw [show j = most + most - n0 by omega]⟩
      clear hh hd hjle hszo h0o hNo hlj
      go_wp2_with (go_at_call 237; (with_reducible refine cM.out.mono ?_); rintro r w1 ⟨rfl, h1⟩; have h1 := hide h1)
      go_end0
      refine ⟨rfl, ?_⟩
      rw [← hr.out]
      exact h1.out
    | true =>
      have hjle := of_decide_eq_true hd
      by_cases hj0 : j = 0
      · have hr : Hide (s.b2.take j = s.b2.take (most + most - n0)) := ⟨by
          rcases hjm.out with e | e
          · rw [hj0, List.take_zero]
            have : s.b2 = [] := List.length_eq_zero_iff.1 (by omega)
            rw [this]
            simp
          · rw [show j = most + most - n0 by omega]⟩
        have cL := hide (fun (w' : World) (q : Nat) (L : List SProp) (hw : Holds g w' (IsList q (s.b2.take j) :: L)) => List_Len hw 0 (by rw [hlj]; exact hj0))
        clear hh hd hjle hszo h0o hNo hlj hj0
        go_wp2_with (first
          | (go_at_call 237; (with_reducible refine cM.out.mono ?_); rintro r w1 ⟨rfl, h1⟩; have y0 := Holds.cell (off := 0) (v := .pointer (some ⟨b, 0, none⟩)) (Holds.p1 h1) rfl; obtain ⟨q0, q1, q2, q3, hR⟩ := h1.isArc; obtain ⟨_, _, _, _, _, c5⟩ := arcc hR; have hR := hide hR; have h1 := hide h1)
          | (go_at_call 161; (with_reducible refine (cL.out _ _ _ (Holds.p4 hR.out)).mono ?_); rintro r w2 ⟨rfl, rfl⟩))
        go_end0
        refine ⟨rfl, ?_⟩
        rw [← hr.out]
        exact h1.out
      · have hjp : (0 : Int) < j := by omega
        have cL := hide (fun (w' : World) (q : Nat) (L : List SProp) (hw : Holds g w' (IsList q (s.b2.take j) :: L)) => List_Len hw j hlj)
        have hE : (!(s.b2.take j).isEmpty) = true := bnot_isEmpty.2 fun e => by rw [e] at hlj; simp at hlj; omega
        have cP := hide (fun (w' : World) (q : Nat) (L : List SProp) (hw : Holds g w' (IsList q (s.b2.take j) :: L)) => List_Pop hw (kLast (s.b2.take j)) rfl true hE)
        have hdl : Hide ((s.b2.take j).dropLast = s.b2.take (j - 1)) := ⟨by
          obtain ⟨i, rfl⟩ : ∃ i, j = i + 1 := ⟨j - 1, by omega⟩
          rw [List.take_succ_eq_append_getElem (by omega), List.dropLast_concat, Nat.add_sub_cancel]⟩
        have hjm2 : Hide (j - 1 = N ∨ most + most - n0 ≤ j - 1) := ⟨.inr (by omega)⟩
        have hj1 : Hide (0 < j) := ⟨by omega⟩
        clear hh hd hjle hszo h0o hNo hlj hE hj0
        go_wp2_with (first
          | (go_at_call 237; (with_reducible refine cM.out.mono ?_); rintro r w1 ⟨rfl, h1⟩; have y0 := Holds.cell (off := 0) (v := .pointer (some ⟨b, 0, none⟩)) (Holds.p1 h1) rfl; obtain ⟨q0, q1, q2, q3, hR⟩ := h1.isArc; obtain ⟨_, _, _, _, _, c5⟩ := arcc hR; have hR := hide hR; have h1 := hide h1)
          | (go_at_call 161; (with_reducible refine (cL.out _ _ _ (Holds.p4 hR.out)).mono ?_); rintro r w2 ⟨rfl, rfl⟩)
          | (go_at_call 162; (with_reducible refine (cP.out _ _ _ (Holds.p4 hR.out)).mono ?_); rintro r w3 ⟨rfl, h3⟩; rw [hdl.out] at h3; have h3 := hide h3))
        go_roundg (j - 1)
        case measure => have := hjk.out; have := hj1.out; omega
        case rel => exact ⟨j - 1, ⟨rfl⟩, by omega, hjm2, Holds.toArc (q0 := q0) (q1 := q1) (q2 := q2) (q3 := q3) (s := { s with b2 := s.b2.take (j - 1) }) h3.out.p4.p4.p4.p4⟩
end Go.Proofs.YtbbdimlpofjlfaaGreatDoor
/- arc in memory: the ghosts that are too many go. -/
namespace Go.Proofs.YtbbdimlpofjlfaaGreatDoor
open Go Go.RowKit

set_option maxRecDepth 100000
set_option maxHeartbeats 2000000
theorem Arc_trim {g w : World} {b : Nat} {s : Arc} {F : List SProp} (h : Holds g w (IsArc b s :: F)) (hl : s.size < 400000) (hm : s.most ≤ 1000000000) :
    Calls Tryz.prog 185 #[.pointer (some ⟨b, 0, none⟩)] w fun r w' => r = .returned (.tuple #[]) ∧ Holds g w' (IsArc b s.trim :: F) := by
  obtain ⟨most, hmo⟩ : ∃ n, s.most = n := ⟨_, rfl⟩
  obtain ⟨cb, hcb⟩ : ∃ n, w.heap.size = n := ⟨_, rfl⟩
  have HA := (h.alloc (o := .cells #[.pointer (some ⟨b, 0, none⟩)] 165)).p1
  rw [hcb] at HA
  have c1 := hide (Arc_while2 HA most hmo hl)
  have c2 := hide (fun w' hw => Arc_while3 (g := g) (w := w') (b := b) (cb := cb) (s := { s with b1 := s.b1.take (most - s.t1.length) }) (F := F) hw most hmo (by omega) (by
    unfold Arc.size at hl ⊢
    dsimp only
    have : (s.b1.take (most - s.t1.length)).length ≤ s.b1.length := List.length_take_le' _ _
    omega))
  have hmf : ∀ (fn : Fn) (first cap : Array Value) (w : World), (Instr.makeFunc fn first cap).run Tryz.prog w = .ok (.func fn first cap) w := fun _ _ _ _ => rfl
  replace hmo := hide hmo
  clear h HA hl hm
  go_enter Tryz.func185, Tryz.ntmps185
  go_wp2_with (first
    | (go_at_call 235; (with_reducible refine c1.out.mono ?_); rintro r w1 ⟨rfl, h1⟩; have h1 := hide h1)
    | (go_at_call 235; (with_reducible refine (c2.out _ h1.out).mono ?_); rintro r w2 ⟨rfl, h2⟩; have h2 := hide h2))
  go_end0
  refine ⟨rfl, ?_⟩
  have e := hmo.out
  subst e
  exact h2.out.p1.drop
end Go.Proofs.YtbbdimlpofjlfaaGreatDoor
/- arc in memory: Adopt. -/
namespace Go.Proofs.YtbbdimlpofjlfaaGreatDoor
open Go Go.RowKit

theorem Arc.off_size (s : Arc) (k : ByteArray) : (s.off k).size ≤ s.size := by
  have h0 := kDel_len s.t1 k
  have h1 := kDel_len s.t2 k
  have h2 := kDel_len s.b1 k
  have h3 := kDel_len s.b2 k
  unfold Arc.off Arc.size
  split
  · dsimp only; omega
  split
  · dsimp only; omega
  split
  · dsimp only; omega
  dsimp only
  omega
theorem Arc.off_most (s : Arc) (k : ByteArray) : (s.off k).most = s.most := by
  unfold Arc.off
  split
  · rfl
  split
  · rfl
  split <;> rfl
set_option maxRecDepth 100000
set_option maxHeartbeats 2000000
theorem Arc_Adopt {g w : World} {b : Nat} {s : Arc} {F : List SProp} (h : Holds g w (IsArc b s :: F)) (k : ByteArray) (hl : s.size < 390000) (hmb : s.most ≤ 1000000000) :
    Calls Tryz.prog 107 #[.pointer (some ⟨b, 0, none⟩), .string k] w fun r w' => r = .returned (.bool (s.adopt k).2) ∧ Holds g w' (IsArc b (s.adopt k).1 :: F) := by
  obtain ⟨d, hd⟩ : ∃ d, s.has k = d := ⟨_, rfl⟩
  obtain ⟨n, hn⟩ : ∃ n, s.len = n := ⟨_, rfl⟩
  obtain ⟨most, hm⟩ : ∃ n, s.most = n := ⟨_, rfl⟩
  have hnl : n < 1000000 := by rw [← hn]; unfold Arc.len; unfold Arc.size at hl; omega
  have cH := hide (fun m => Arc_Has (h.drewN (n := m)) k d hd)
  have cL := hide (fun m => Arc_Len (h.drewN (n := m)) n hn (by rw [hn]; exact hnl))
  have c0 := arcMost h hm
  obtain ⟨res, hres⟩ : ∃ res, s.adopt k = res := ⟨_, rfl⟩
  rw [hres]
  unfold Arc.adopt at hres
  cases d with
  | true =>
    have hr : Hide (res = (s, false)) := ⟨by rw [← hres, if_pos (.inl hd)]⟩
    replace h := hide h
    clear hn hnl hm hmb hl hres hd
    go_enter Tryz.func107, Tryz.ntmps107
    go_wp2
    go_quiet ((go_at_call 103; exact Calls.quiet_eq (cH.out _)))
    go_wp2
    go_ret
    rw [hr.out]
    exact ⟨rfl, h.out.drewN⟩
  | false =>
    by_cases hf : most ≤ n
    · have hf1 : decide ((most : Int) ≤ n) = true := decide_eq_true (by omega)
      have hf2 : decide (most ≤ n) = true := decide_eq_true hf
      have hf3 : most ≤ n := hf
      have hr : Hide (res = (s, false)) := ⟨by rw [← hres, if_pos (.inr (by rw [hm, hn]; exact hf))]⟩
      replace h := hide h
      clear hn hnl hm hmb hl hres hd hf
      go_enter Tryz.func107, Tryz.ntmps107
      go_wp2
      go_quiet ((first | (go_at_call 103; exact Calls.quiet_eq (cH.out _)) | (go_at_call 104; exact Calls.quiet_of (cL.out _))))
      go_wp2
      go_ret
      rw [hr.out]
      exact ⟨rfl, h.out.drewN⟩
    · have hf1 : decide ((most : Int) ≤ n) = false := decide_eq_false (by omega)
      have hf2 : decide (most ≤ n) = false := decide_eq_false hf
      have hr : Hide (res = (Arc.trim { (s.off k) with t1 := kFront (s.off k).t1 k }, true)) := ⟨by rw [← hres, if_neg (fun c => c.elim (fun c => by rw [hd] at c; exact absurd c (by decide)) (fun c => hf (by rw [hm, hn] at c; exact c)))]⟩
      obtain ⟨s1, hs1⟩ : ∃ s1, s.off k = s1 := ⟨_, rfl⟩
      have hof := Arc.off_size s k
      rw [hs1] at hof
      have hom := Arc.off_most s k
      rw [hs1] at hom
      have cR := hide (fun m => Arc_Remove (h.drewN (n := m)) k false hd)
      rw [hs1] at cR hr
      have cT := hide (fun w' (hw : Holds g w' (IsArc b { s1 with t1 := kFront s1.t1 k } :: F)) => Arc_trim hw (by
        have := kFront_len s1.t1 k
        unfold Arc.size at hof hl ⊢
        dsimp only
        omega) (by dsimp only; rw [hom, hm]; omega))
      have hl1 : Hide (s1.t1.length < 900000) := ⟨by unfold Arc.size at hof hl; omega⟩
      clear hn hnl hm hmb hl hres hd hf h hof hom
      go_enter Tryz.func107, Tryz.ntmps107
      go_wp2
      go_quiet ((first | (go_at_call 103; exact Calls.quiet_eq (cH.out _)) | (go_at_call 104; exact Calls.quiet_of (cL.out _))))
      go_wp2_with (first
        | (go_at_call 106; (with_reducible refine (cR.out _).mono ?_); rintro r w1 ⟨rfl, h1⟩; obtain ⟨q0, q1, q2, q3, hR⟩ := h1.isArc; obtain ⟨_, _, c2, _, _, _⟩ := arcc hR; have hR := hide hR; have h1 := hide h1)
        | (go_at_call 163; (with_reducible refine (List_Front (Holds.p1 hR.out) k hl1.out).mono ?_); rintro r w2 ⟨rfl, h2⟩; have h2 := hide (Holds.toArc (q0 := q0) (q1 := q1) (q2 := q2) (q3 := q3) (s := { s1 with t1 := kFront s1.t1 k }) h2.p1))
        | (go_at_call 185; (with_reducible refine (cT.out _ h2.out).mono ?_); rintro r w3 ⟨rfl, h3⟩; have h3 := hide h3))
      go_ret
      rw [hr.out]
      exact ⟨rfl, h3.out⟩
end Go.Proofs.YtbbdimlpofjlfaaGreatDoor
/- arc in memory: Resize. -/
namespace Go.Proofs.YtbbdimlpofjlfaaGreatDoor
open Go Go.RowKit

theorem Arc.yield_step (s : Arc) (d : Bool) : (s.yield d).1.size ≤ s.size ∧ (s.yield d).1.most = s.most ∧ (0 < s.len → (s.yield d).1.len + 1 = s.len) := by
  have h1 := kFront_len s.b1 (kLast s.t1)
  have h2 := kFront_len s.b2 (kLast s.t2)
  have h3 : s.t1.dropLast.length = s.t1.length - 1 := List.length_dropLast
  have h4 : s.t2.dropLast.length = s.t2.length - 1 := List.length_dropLast
  unfold Arc.yield
  by_cases hf : s.first d = true
  · rw [if_pos hf]
    have : 0 < s.t1.length := by
      unfold Arc.first at hf
      simp only [Bool.and_eq_true, decide_eq_true_eq] at hf
      exact hf.1
    refine ⟨?_, rfl, fun _ => ?_⟩
    · unfold Arc.size; dsimp only; omega
    · unfold Arc.len; dsimp only; omega
  · rw [if_neg hf]
    by_cases ht : s.t2 = []
    · rw [if_pos ht]
      refine ⟨Nat.le_refl _, rfl, fun hl => ?_⟩
      exfalso
      apply hf
      have h5 : s.t2.length = 0 := by rw [ht]; rfl
      unfold Arc.len at hl
      unfold Arc.first
      simp only [Bool.and_eq_true, Bool.or_eq_true, decide_eq_true_eq]
      exact ⟨by omega, .inr h5⟩
    · rw [if_neg ht]
      have : 0 < s.t2.length := List.length_pos_iff.2 ht
      refine ⟨?_, rfl, fun _ => ?_⟩
      · unfold Arc.size; dsimp only; omega
      · unfold Arc.len; dsimp only; omega
set_option maxRecDepth 100000
set_option maxHeartbeats 4000000
theorem Arc_Resize {g w : World} {b : Nat} {s : Arc} {F : List SProp} (h : Holds g w (IsArc b s :: F)) (most : Nat) (hm : most ≤ 1000000000) (hl : s.size < 390000) (_hmb : s.most ≤ 1000000000 ∧ s.p ≤ 1000000000) :
    Calls Tryz.prog 110 #[.pointer (some ⟨b, 0, none⟩), .int .i64 (most : Nat)] w fun r w' => ∃ v, r = .returned v ∧ Holds g w' (OwnStrs v (s.resize most).2 :: IsArc b (s.resize most).1 :: F) := by
  have f1 : max (most : Int) 0 = most := by omega
  obtain ⟨P, hP⟩ : ∃ P, min s.p most = P := ⟨_, rfl⟩
  have f2 : min (s.p : Int) (most : Int) = (P : Nat) := by rw [← hP]; omega
  obtain ⟨s1, hs1⟩ : ∃ s1 : Arc, { s with most := most, p := P } = s1 := ⟨_, rfl⟩
  have hs1l : s1.size < 390000 := by rw [← hs1]; exact hl
  have hs1m : s1.most = most := by rw [← hs1]
  obtain ⟨res, hres⟩ : ∃ res, s.resize most = res := ⟨_, rfl⟩
  have hR : Hide (∀ s' l, Arc.yieldN (s1.len - most) s1 = (s', l) → res = (s'.trim, l)) := ⟨fun s' l e => by
    rw [← hres]
    unfold Arc.resize
    dsimp only
    rw [hP, hs1, e]⟩
  rw [hres]
  obtain ⟨q0, q1, q2, q3, hA⟩ := h.isArc
  obtain ⟨c0, c1, _⟩ := arcc hA
  have g0 : w.frozen? ⟨b, 0, none⟩ = false := Holds.free hA
  have H1 := hA.setCell (off := 0) (v := .int .i64 (most : Nat))
  have H2 := Holds.toArc (q0 := q0) (q1 := q1) (q2 := q2) (q3 := q3) (s := { s with most := most }) H1
  obtain ⟨W, hW⟩ : ∃ W, w.setCell ⟨b, 0, none⟩ (.int .i64 (most : Nat)) = W := ⟨_, rfl⟩
  rw [hW] at H2
  clear H1 hA
  obtain ⟨q0, q1, q2, q3, hB⟩ := H2.isArc
  obtain ⟨d0, d1, _⟩ := arcc hB
  dsimp only at d0 d1
  have f1b : W.frozen? ⟨b, 1, none⟩ = false := Holds.free hB
  have HT := hide (Holds.toArc (q0 := q0) (q1 := q1) (q2 := q2) (q3 := q3) (s := { s with most := most, p := P }) (Holds.setCell (off := 1) (v := .int .i64 (P : Nat)) hB.drew))
  rw [hs1] at HT
  clear hB H2 h
  replace hres := hide hres
  replace hs1 := hide hs1
  replace hm := hide hm
  replace hs1l := hide hs1l
  replace hs1m := hide hs1m
  clear hl _hmb hP
  go_enter Tryz.func110, Tryz.ntmps110
  go_upto_region 2 with fail
  try rw [hW]
  clear hW c0 c1 g0
  go_cut [4] (fun (_ : Value) wx => Holds g wx (IsArc b s1 :: F))
  case first =>
    go_still_tail 12, (by kernel_rfl)
    repeat still_step
    change wpList _ _ _ _ _ W.drew
    go_wp2
    go_meet
    case rel => exact HT.out
  case rest =>
  have hl0 := hs1l.out
  obtain ⟨N, hN⟩ : ∃ N, s1.len = N := ⟨_, rfl⟩
  have hNl : N < 390000 := by rw [← hN]; unfold Arc.len; unfold Arc.size at hl0; omega
  have HB := hide (hcut.ownNil 9 1)
  replace hN := hide hN
  clear hl0 hcut HT f1b d0 d1
  replace hNl := hide hNl
  go_wp2
  go_loopg [5] (N) (fun c v wr => ∃ s' l, Hide (s'.len = c) ∧ Hide (Arc.yieldN (s1.len - most) s1 = ((Arc.yieldN (s'.len - most) s').1, l ++ (Arc.yieldN (s'.len - most) s').2)) ∧ Hide (s'.size < 390000) ∧ Hide (s'.len + l.length = N ∧ s'.most = most) ∧ Holds g wr (OwnStrs v l :: IsArc b s' :: F))
  case atStart => exact ⟨s1, [], hN, ⟨rfl⟩, hs1l, ⟨hN.out, hs1m.out⟩, HB.out⟩
  case round =>
    clear HB
    obtain ⟨s', l, hc, hd, hsz, hlen, hh⟩ := hrel
    obtain ⟨ao, cap, hvs⟩ := (show RowAt wr _ (strs l) from Holds.rowAt (by unfold OwnStrs at hh; exact hh)).shape
    rw [strs_length] at hvs
    subst hvs
    obtain ⟨n, hn⟩ : ∃ n, s'.len = n := ⟨_, rfl⟩
    have hle := hlen.out.1
    have hlb := hNl.out
    have cL := hide (fun m => Arc_Len (Holds.p1 (hh.drewN (n := m))) n hn (by omega))
    have d0 := arcMost (Holds.p1 hh) hlen.out.2
    by_cases hlt : most < n
    · have g2 : decide ((most : Int) < n) = true := decide_eq_true (by omega)
      have g3 : decide (most < n) = true := decide_eq_true hlt
      obtain ⟨q1, q2, q3⟩ := Arc.yield_step s' false
      have q3 := q3 (by omega)
      obtain ⟨⟨s2, x, o⟩, hx⟩ : ∃ x, s'.yield false = x := ⟨_, rfl⟩
      have hszo := hsz.out
      have cD := hide (fun m => Arc_yield (Holds.p1 (hh.drewN (n := m))) false (by unfold Arc.size at hszo; omega))
      rw [hx] at q1 q2 q3 cD
      dsimp only at q1 q2 q3 cD
      have hrl : Hide (l.length + [x].length ≤ 2000000) := ⟨by simp only [List.length_singleton]; omega⟩
      have hd2 : Hide (Arc.yieldN (s1.len - most) s1 = ((Arc.yieldN (s2.len - most) s2).1, (l ++ [x]) ++ (Arc.yieldN (s2.len - most) s2).2)) := ⟨by
        have e := hd.out
        rw [hn, show n - most = (n - 1 - most) + 1 by omega] at e
        have e1 : Arc.yieldN ((n - 1 - most) + 1) s' = ((Arc.yieldN (n - 1 - most) (s'.yield false).1).1, (s'.yield false).2.1 :: (Arc.yieldN (n - 1 - most) (s'.yield false).1).2) := rfl
        rw [hx] at e1
        rw [show s2.len = n - 1 by omega, e, List.append_assoc, e1]
        rfl⟩
      have hlen2 : Hide (s2.len + (l ++ [x]).length = N ∧ s2.most = most) := ⟨by rw [List.length_append, List.length_singleton]; omega, q2.trans hlen.out.2⟩
      have hsz2 : Hide (s2.size < 390000) := ⟨by omega⟩
      replace hn := hide hn
      replace hx := hide hx
      replace q3 := hide q3
      replace hle := hide hle
      clear hh hlb q1 q2 hszo
      go_wp2
      go_quiet ((go_at_call 104; exact Calls.quiet_of (cL.out _)))
      go_wp2_with (first
        | (go_at_call 187; (with_reducible refine (cD.out _).mono ?_); rintro r w3 ⟨rfl, h3⟩; have h3 := hide h3)
        | (at_builtin; refine wpList_append_strs rfl _ _ rfl (Holds.p1 (Holds.oneStrR ((Holds.p1 h3.out).alloc (o := .cells #[.string x] 9)))) hrl.out rfl rfl ?_; intro v5 w5 h5; have h5 := hide h5))
      go_roundg (n - 1)
      case measure => have := hc.out; have := hn.out; omega
      case rel => exact ⟨s2, l ++ [x], ⟨by have := q3.out; have := hn.out; omega⟩, hd2, hsz2, hlen2, h5.out⟩
    · have g2 : decide ((most : Int) < n) = false := decide_eq_false (by omega)
      have g3 : decide (most < n) = false := decide_eq_false hlt
      have hr : Hide (res = (s'.trim, l)) := ⟨hR.out _ _ (by
        rw [hd.out, hn, show n - most = 0 by omega]
        show (s', l ++ []) = (s', l)
        rw [List.append_nil])⟩
      have cT := hide (fun m => Arc_trim (Holds.p1 (hh.drewN (n := m))) (by have := hsz.out; omega) (by rw [hlen.out.2]; exact hm.out))
      replace hn := hide hn
      clear hle hlb
      replace hlt := hide hlt
      clear hh
      go_wp2
      go_quiet ((go_at_call 104; exact Calls.quiet_of (cL.out _)))
      go_wp2_with ((go_at_call 185; (with_reducible refine (cT.out _).mono ?_); rintro r w5 ⟨rfl, h5⟩; have h5 := hide h5))
      go_ret
      refine ⟨_, rfl, ?_⟩
      rw [hr.out]
      exact h5.out.p1
end Go.Proofs.YtbbdimlpofjlfaaGreatDoor
