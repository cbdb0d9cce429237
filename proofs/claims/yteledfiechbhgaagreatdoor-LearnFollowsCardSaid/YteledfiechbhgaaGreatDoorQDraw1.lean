/- Draws that were laid down ahead: a tape in memory. -/
import Derived.Test.YteledfiechbhgaaGreatDoorQTwLearn
import Derived.Test.YteledfiechbhgaaGreatDoorQLs2
import Derived.Deep.DeepCutAuto
namespace Go.Proofs.YteledfiechbhgaaGreatDoor
open Go Go.RowKit

def nums64 (l : List Nat) : List Value := l.map fun n => .int .u64 (n : Nat)
/-- The rest of a lane. -/
def IsLane (v : Value) (l : List Nat) : SProp := fun h =>
  (v = .slice none 0 0 ∧ l = []) ∨ ∃ q off cap cur, v = .slice (some ⟨q, off, none⟩) l.length cap ∧ l.length ≤ cap ∧ cap ≤ maxLen ∧ (∀ j x, l[j]? = some x → cur[off + j]? = some (.int .u64 (x : Nat))) ∧ pts q (.cells cur 28 (0, 0)) h
def Lanes : List Value → List (List Nat) → List SProp
  | v :: vs, l :: t => IsLane v l :: Lanes vs t
  | _, _ => []
/-- A tape at block b. -/
def IsTape (b : Nat) (t : List (List Nat)) : SProp := fun h => ∃ v vs, vs.length = t.length ∧ All [pts b (.cells #[v] 112), OwnRow 22 1 v t.length vs, All (Lanes vs t)] h
theorem Holds.isTape {g w : World} {b : Nat} {t : List (List Nat)} {F : List SProp} (h : Holds g w (IsTape b t :: F)) :
    ∃ v vs, vs.length = t.length ∧ Holds g w (pts b (.cells #[v] 112) :: OwnRow 22 1 v t.length vs :: All (Lanes vs t) :: F) := by
  obtain ⟨v, h⟩ := h.unex
  obtain ⟨vs, h⟩ := h.unex
  obtain ⟨hl, h⟩ := h.unfact
  exact ⟨v, vs, hl, h.unall⟩
theorem Holds.toTape {g w : World} {b : Nat} {t : List (List Nat)} {v : Value} {vs : List Value} {F : List SProp} (hl : vs.length = t.length) (h : Holds g w (pts b (.cells #[v] 112) :: OwnRow 22 1 v t.length vs :: All (Lanes vs t) :: F)) : Holds g w (IsTape b t :: F) := by
  have h' : Holds g w (All [pts b (.cells #[v] 112), OwnRow 22 1 v t.length vs, All (Lanes vs t)] :: F) := Holds.all h
  exact h'.head fun x hx => ⟨v, vs, hl, hx⟩
/-- One lane ahead of the others. -/
theorem Lanes.at : ∀ {vs : List Value} {t : List (List Nat)}, vs.length = t.length → ∀ {i : Nat} {l : List Nat}, t[i]? = some l → ∃ v, vs[i]? = some v ∧ ∃ R, (Lanes vs t).Perm (IsLane v l :: R) ∧ ∀ v' l', (Lanes (vs.set i v') (t.set i l')).Perm (IsLane v' l' :: R)
  | v :: vs, l0 :: t, _, 0, l, h => by
    obtain rfl : l0 = l := by simpa using h
    exact ⟨v, rfl, Lanes vs t, List.Perm.refl _, fun v' l' => List.Perm.refl _⟩
  | v :: vs, l0 :: t, hl, i + 1, l, h => by
    obtain ⟨u, hu, R, hR, hR2⟩ := Lanes.at (vs := vs) (t := t) (by simpa using hl) (i := i) (l := l) (by simpa using h)
    exact ⟨u, by simpa using hu, IsLane v l0 :: R, (List.Perm.cons _ hR).trans (List.Perm.swap _ _ _), fun v' l' => (List.Perm.cons _ (hR2 v' l')).trans (List.Perm.swap _ _ _)⟩
  | [], [], _, i, l, h => by simp at h
  | [], _ :: _, hl, _, _, _ => by simp at hl
  | _ :: _, [], hl, _, _, _ => by simp at hl
theorem Holds.inAll {g w : World} {L M F : List SProp} (h : Holds g w (All L :: F)) (p : L.Perm M) : Holds g w (All M :: F) := h.head fun _ s => s.perm p
theorem Holds.laneShape {g w : World} {v : Value} {l : List Nat} {F : List SProp} (h : Holds g w (IsLane v l :: F)) : ∃ ao cap, v = .slice ao l.length cap := by
  obtain ⟨_, _, _, _, x, ⟨y, z, _, hx, hp, _⟩, f⟩ := h
  rcases hp with ⟨rfl, rfl⟩ | ⟨q, off, cap, cur, rfl, _⟩
  · exact ⟨_, _, rfl⟩
  · exact ⟨_, _, rfl⟩
/-- A lane that is not at its end. -/
theorem Holds.laneCons {g w : World} {v : Value} {x : Nat} {l : List Nat} {F : List SProp} (h : Holds g w (IsLane v (x :: l) :: F)) :
    ∃ q off cap a', v = .slice (some ⟨q, off, none⟩) (l.length + 1) cap ∧ l.length + 1 ≤ cap ∧ cap ≤ maxLen ∧ w.cell? ⟨q, off, none⟩ = some (.int .u64 (x : Nat)) ∧ q < w.heap.size ∧ (if cap = 1 then some (⟨q, off, none⟩ : Addr) else some ⟨q, off + 1, none⟩) = some a' ∧
      Holds g w (IsLane (.slice (some a') l.length (cap - 1)) l :: F) := by
  have hsh : ∃ q off cap cur, v = .slice (some ⟨q, off, none⟩) (l.length + 1) cap ∧ l.length + 1 ≤ cap ∧ cap ≤ maxLen ∧ (∀ j u, (x :: l)[j]? = some u → cur[off + j]? = some (.int .u64 (u : Nat))) ∧ Holds g w (pts q (.cells cur 28 (0, 0)) :: F) := by
    obtain ⟨a, b, c, z, y, ⟨y1, y2, d, e, hp, s⟩, f⟩ := h
    rcases hp with ⟨_, hn⟩ | ⟨q, off, cap, cur, h1, h2, h3, h4, h5⟩
    · cases hn
    · exact ⟨q, off, cap, cur, h1, h2, h3, h4, a, b, c, z, y, ⟨y1, y2, d, e, h5, s⟩, f⟩
  obtain ⟨q, off, cap, cur, h1, h2, h3, h4, h5⟩ := hsh
  refine ⟨q, off, cap, if cap = 1 then ⟨q, off, none⟩ else ⟨q, off + 1, none⟩, h1, h2, h3, ?_, h5.lt, by split <;> rfl, ?_⟩
  · have := h4 0 x rfl
    exact h5.cell this
  · by_cases hc : cap = 1
    · rw [if_pos hc]
      obtain rfl : l = [] := List.length_eq_zero_iff.1 (by omega)
      exact h5.head fun _ hy => .inr ⟨q, off, cap - 1, cur, rfl, by simp, by omega, fun j u hu => by simp at hu, hy⟩
    · rw [if_neg hc]
      exact h5.head fun _ hy => .inr ⟨q, off + 1, cap - 1, cur, rfl, by omega, by omega, fun j u hu => by
        have := h4 (j + 1) u (by simpa using hu)
        rw [show off + 1 + j = off + (j + 1) by omega]
        exact this, hy⟩
end Go.Proofs.YteledfiechbhgaaGreatDoor
/- Tapes: Left, Next, Pick. -/
namespace Go.Proofs.YteledfiechbhgaaGreatDoor
open Go Go.RowKit

set_option maxRecDepth 100000
set_option maxHeartbeats 1000000
theorem Tape_Left {g w : World} {b : Nat} {t : List (List Nat)} {F : List SProp} (h : Holds g w (IsTape b t :: F)) (lane n : Nat) (hn : (t[lane]?.getD []).length = n) :
    Calls Tryz.prog 186 #[.pointer (some ⟨b, 0, none⟩), .int .i64 (lane : Nat)] w fun r w' => r = .returned (.int .i64 (n : Nat)) ∧ w = w' := by
  obtain ⟨v, vs, hl, h⟩ := h.isTape
  obtain ⟨ao, cap, rfl⟩ := rowForm (Holds.p1 h).ownsRow
  have c0 : w.cell? ⟨b, 0, none⟩ = some (.slice ao t.length cap) := Holds.cell h rfl
  obtain ⟨N, hN⟩ : ∃ N, t.length = N := ⟨_, rfl⟩
  by_cases hlt : lane < N
  · have hlt' : lane < t.length := by omega
    have hti : t[lane]? = some t[lane] := List.getElem?_eq_getElem hlt'
    obtain ⟨l, hl0⟩ : ∃ l, t[lane] = l := ⟨_, rfl⟩
    rw [hl0] at hti
    rw [hti] at hn
    obtain ⟨u, hu, R, hR, _⟩ := Lanes.at hl hti
    rcases (Holds.p1 h).rowShape with ⟨_, h0, _⟩ | ⟨q, cap', he⟩
    · omega
    · obtain ⟨rfl, rfl⟩ : ao = some ⟨q, 0, none⟩ ∧ cap = cap' := by cases he; exact ⟨rfl, rfl⟩
      have cl := Holds.rowCell (Holds.p1 h) hu
      obtain ⟨ao2, cap2, rfl⟩ := Holds.laneShape (Holds.unall ((Holds.p2 h).inAll hR))
      rw [show l.length = n from hn] at cl
      rw [hN] at c0
      clear h hu hR hl hn hti hl0 hlt' hN he
      have f1 : decide ((N : Int) ≤ lane) = false := decide_eq_false (by omega)
      have f2 : decide (N ≤ lane) = false := decide_eq_false (by omega)
      have f3 : (lane : Int) < N := by omega
      have f4 : ¬ (lane : Int) < 0 := by omega
      go_enter Tryz.func186, Tryz.ntmps186
      go_wp2
      go_ret
      exact ⟨rfl, rfl⟩
  · have hti : t[lane]? = none := List.getElem?_eq_none (by omega)
    rw [hti] at hn
    obtain rfl : 0 = n := hn
    rw [hN] at c0
    clear h hl hti hN
    have f1 : decide ((N : Int) ≤ lane) = true := decide_eq_true (by omega)
    have f2 : decide (N ≤ lane) = true := decide_eq_true (by omega)
    have f4 : ¬ (lane : Int) < 0 := by omega
    go_enter Tryz.func186, Tryz.ntmps186
    go_wp2
    go_ret
    exact ⟨rfl, rfl⟩
theorem tNext_none {t : List (List Nat)} {lane : Nat} (h : (t[lane]?.getD []).length = 0) : tNext t lane = t ∧ tHead t lane = 0 := by
  have h' : t[lane]?.getD [] = [] := List.length_eq_zero_iff.1 h
  refine ⟨?_, by unfold tHead; rw [h']; rfl⟩
  unfold tNext
  refine List.ext_getElem? fun j => ?_
  rw [List.getElem?_modify]
  by_cases hj : lane = j
  · subst hj
    cases e : t[lane]? with
    | none => rfl
    | some l =>
      rw [e] at h'
      obtain rfl : l = [] := h'
      simp
  · cases e : t[j]? with
    | none => rfl
    | some l => simp [hj]
theorem tNext_some {t : List (List Nat)} {lane x : Nat} {l : List Nat} (h : t[lane]? = some (x :: l)) : tNext t lane = t.set lane l ∧ tHead t lane = x := by
  refine ⟨?_, by unfold tHead; rw [h]; rfl⟩
  unfold tNext
  refine List.ext_getElem? fun j => ?_
  rw [List.getElem?_modify, List.getElem?_set]
  have hlt : lane < t.length := (List.getElem?_eq_some_iff.1 h).1
  by_cases hj : lane = j
  · subst hj
    rw [h]
    simp [hlt]
  · cases e : t[j]? with
    | none => simp [hj]
    | some l => simp [hj]
theorem Tape_Next {g w : World} {b : Nat} {t : List (List Nat)} {F : List SProp} (h : Holds g w (IsTape b t :: F)) (lane : Nat) :
    Calls Tryz.prog 95 #[.pointer (some ⟨b, 0, none⟩), .int .i64 (lane : Nat)] w fun r w' => r = .returned (.int .u64 (tHead t lane : Nat)) ∧ Holds g w' (IsTape b (tNext t lane) :: F) := by
  cases hL : t[lane]?.getD [] with
  | nil =>
    have cL := hide (Tape_Left h lane 0 (by rw [hL]; rfl))
    obtain ⟨e1, e2⟩ := tNext_none (t := t) (lane := lane) (by rw [hL]; rfl)
    rw [e1, e2]
    have h := hide h
    clear e1 e2 hL
    go_enter Tryz.func95, Tryz.ntmps95
    go_wp2_with (go_at_call 186; (with_reducible refine cL.out.mono ?_); rintro r w1 ⟨rfl, rfl⟩)
    go_ret
    exact ⟨rfl, h.out⟩
  | cons x l =>
    have hti : t[lane]? = some (x :: l) := by
      cases e : t[lane]? with
      | none => rw [e] at hL; cases hL
      | some l' => rw [e] at hL; rw [show l' = x :: l from hL]
    have hlt : lane < t.length := (List.getElem?_eq_some_iff.1 hti).1
    have cL := hide (Tape_Left h lane (l.length + 1) (by rw [hL]; rfl))
    obtain ⟨e1, e2⟩ := tNext_some hti
    rw [e1, e2]
    obtain ⟨v, vs, hl, h⟩ := h.isTape
    rcases (Holds.p1 h).rowShape with ⟨_, h0, _⟩ | ⟨q, cap, rfl⟩
    · omega
    obtain ⟨u, hu, R, hR, hR2⟩ := Lanes.at hl hti
    have c0 : w.cell? ⟨b, 0, none⟩ = some (.slice (some ⟨q, 0, none⟩) t.length cap) := Holds.cell h rfl
    have cl := Holds.rowCell (Holds.p1 h) hu
    have fl := Holds.rowFree (Holds.p1 h) (j := lane)
    obtain ⟨q2, off, cap2, a', rfl, b1, b2, cx, b3, ha', hln⟩ := Holds.laneCons (Holds.unall ((Holds.p2 h).inAll hR))
    obtain ⟨m, hm⟩ : ∃ m, l.length = m := ⟨_, rfl⟩
    rw [hm] at cL cl b1 hln
    obtain ⟨u', hu'⟩ : ∃ u', Value.slice (some a') m (cap2 - 1) = u' := ⟨_, rfl⟩
    rw [hu'] at hln
    have HL : Holds g w (OwnRow 22 1 (.slice (some ⟨q, 0, none⟩) t.length cap) t.length vs :: pts b (.cells #[.slice (some ⟨q, 0, none⟩) t.length cap] 112) :: All (Lanes (vs.set lane u') (t.set lane l)) :: F) := by
      have := (Holds.all (L := IsLane u' l :: R) (F := pts b (.cells #[.slice (some ⟨q, 0, none⟩) t.length cap] 112) :: OwnRow 22 1 (.slice (some ⟨q, 0, none⟩) t.length cap) t.length vs :: F) (by
        have hp : (IsLane u' l :: (R ++ pts b (.cells #[.slice (some ⟨q, 0, none⟩) t.length cap] 112) :: OwnRow 22 1 (.slice (some ⟨q, 0, none⟩) t.length cap) t.length vs :: F)).Perm ((IsLane u' l :: R) ++ pts b (.cells #[.slice (some ⟨q, 0, none⟩) t.length cap] 112) :: OwnRow 22 1 (.slice (some ⟨q, 0, none⟩) t.length cap) t.length vs :: F) := List.Perm.refl _
        exact hln.perm hp)).inAll (hR2 u' l).symm
      exact this.p1.p2
    have HS := hide (HL.rowSet lane u')
    obtain ⟨N, hN⟩ : ∃ N, t.length = N := ⟨_, rfl⟩
    have hset : Hide ((vs.set lane u').length = (t.set lane l).length ∧ (t.set lane l).length = N) := ⟨by rw [List.length_set, List.length_set, hl, hN]; exact ⟨rfl, rfl⟩⟩
    rw [hN] at c0
    have f3 : (lane : Int) < N := by omega
    have f7 : (1 : Int) ≤ (m : Int) + 1 := by omega
    have f5 : ((m : Int) + 1 == 0) = false := by rw [beq_eq_false_iff_ne]; omega
    have f6 : (((m + 1 : Nat) : Int) == 0) = false := by rw [beq_eq_false_iff_ne]; omega
    subst hu'
    have hN := hide hN
    clear h hu hR hR2 hl hti hlt hm HL hln hL e1 e2
    go_enter Tryz.func95, Tryz.ntmps95
    go_upto_region 4 with (go_at_call 186; (with_reducible refine cL.out.mono ?_); rintro r w1 ⟨rfl, rfl⟩)
    go_cut [19] (fun v wx => v = .pointer (some ⟨b, 0, none⟩) ∧ Holds g wx (OwnRow 22 1 (.slice (some ⟨q, 0, none⟩) t.length cap) t.length (vs.set lane (.slice (some a') m (cap2 - 1))) :: pts b (.cells #[.slice (some ⟨q, 0, none⟩) t.length cap] 112) :: All (Lanes (vs.set lane (.slice (some a') m (cap2 - 1))) (t.set lane l)) :: F))
    case first =>
      go_region_law (fail)
      all_goals
        go_wp2
        go_meet
        case rel => exact ⟨rfl, HS.out.drew⟩
    case rest =>
      obtain ⟨rfl, hc⟩ := hcut
      have HC := hide hc
      clear hc HS c0 cl fl cx
      go_wp2
      go_ret
      have H := HC.out
      rw [show t.length = (t.set lane l).length by rw [List.length_set]] at H
      exact ⟨rfl, Holds.toTape hset.out.1 H.p1⟩
/-- Is the next one below? -/
theorem Tape_Pick {g w : World} {b : Nat} {t : List (List Nat)} {F : List SProp} (h : Holds g w (IsTape b t :: F)) (lane x : Nat) (d : Bool) (hd : decide (tHead t lane / 4 < x) = d) :
    Calls Tryz.prog 93 #[.pointer (some ⟨b, 0, none⟩), .int .i64 (lane : Nat), .int .u64 (x : Nat)] w fun r w' => r = .returned (.bool d) ∧ Holds g w' (IsTape b (tNext t lane) :: F) := by
  have cN := hide (Tape_Next h lane)
  obtain ⟨n, hn⟩ : ∃ n, tHead t lane = n := ⟨_, rfl⟩
  rw [hn] at cN hd
  obtain ⟨m, hm⟩ : ∃ m, n / 4 = m := ⟨_, rfl⟩
  rw [hm] at hd
  clear h hn
  go_enter Tryz.func93, Tryz.ntmps93
  go_upto_region 1 with fail
  go_wp2_with (go_at_call 95; (with_reducible refine cN.out.mono ?_); rintro r w1 ⟨rfl, h1⟩; have h1 := hide h1)
  go_ret
  have e : decide ((n : Int) / 4 < (x : Int)) = d := by rw [← hd]; exact decide_eq_decide.2 (by omega)
  exact ⟨by rw [← e]; rfl, h1.out⟩
end Go.Proofs.YteledfiechbhgaaGreatDoor
