/- Draws that were laid down ahead: a tape in memory. -/
import Derived.Test.YtbbdimlpofjlfaaGreatDoorQTwLearn
import Derived.Test.YtbbdimlpofjlfaaGreatDoorQLs2
import Derived.Deep.DeepCutAuto
import Derived.Laws.CopyOwn
namespace Go.Proofs.YtbbdimlpofjlfaaGreatDoor
open Go Go.RowKit

def nums64 (l : List Nat) : List Value := l.map fun n => .int .u64 (n : Nat)
/-- The rest of a lane. -/
def IsLane (v : Value) (l : List Nat) : SProp := fun h =>
  (v = .slice none 0 0 ∧ l = []) ∨ ∃ q off cap cur, v = .slice (some ⟨q, off, none⟩) l.length cap ∧ l.length ≤ cap ∧ cap ≤ maxLen ∧ (∀ j x, l[j]? = some x → cur[off + j]? = some (.int .u64 (x : Nat))) ∧ pts q (.cells cur 67 (0, 0)) h
def Lanes : List Value → List (List Nat) → List SProp
  | v :: vs, l :: t => IsLane v l :: Lanes vs t
  | _, _ => []
/-- A tape at block b. -/
def IsTape (b : Nat) (t : List (List Nat)) : SProp := fun h => ∃ v vs, vs.length = t.length ∧ All [pts b (.cells #[v] 110), OwnRow 22 1 v t.length vs, All (Lanes vs t)] h
theorem Holds.isTape {g w : World} {b : Nat} {t : List (List Nat)} {F : List SProp} (h : Holds g w (IsTape b t :: F)) :
    ∃ v vs, vs.length = t.length ∧ Holds g w (pts b (.cells #[v] 110) :: OwnRow 22 1 v t.length vs :: All (Lanes vs t) :: F) := by
  obtain ⟨v, h⟩ := h.unex
  obtain ⟨vs, h⟩ := h.unex
  obtain ⟨hl, h⟩ := h.unfact
  exact ⟨v, vs, hl, h.unall⟩
theorem Holds.toTape {g w : World} {b : Nat} {t : List (List Nat)} {v : Value} {vs : List Value} {F : List SProp} (hl : vs.length = t.length) (h : Holds g w (pts b (.cells #[v] 110) :: OwnRow 22 1 v t.length vs :: All (Lanes vs t) :: F)) : Holds g w (IsTape b t :: F) := by
  have h' : Holds g w (All [pts b (.cells #[v] 110), OwnRow 22 1 v t.length vs, All (Lanes vs t)] :: F) := Holds.all h
  exact h'.head fun x hx => ⟨v, vs, hl, hx⟩
/-- One lane ahead of the others. -/
theorem Lanes.at : ∀ {vs : List Value} {t : List (List Nat)}, vs.length = t.length → ∀ {i : Nat} {l : List Nat}, t[i]? = some l → ∃ v, vs[i]? = some v ∧ ∃ R, (Lanes vs t).Perm (IsLane v l :: R) ∧ ∀ v' l', (Lanes (vs.set i v') (t.set i l')).Perm (IsLane v' l' :: R)
  | v :: vs, l0 :: t, _, 0, l, h => by
    obtain rfl : l0 = l := by simpa using h
    exact ⟨v, rfl, Lanes vs t, List.Perm.refl _, fun v' l' => List.Perm.refl _⟩
  | v :: vs, l0 :: t, hl, i + 1, l, h => by
    obtain ⟨u, hu, R, hR, hR2⟩ := Lanes.at (vs := vs) (t := t) (by simpa using hl) (i := i) (l := l) (by simpa using h)
    exact ⟨u, by simpa using hu, IsLane v l0 :: R, (List.Perm.cons _ hR).trans (List.Perm.swap _ _ _), fun v' l' => (List.Perm.cons _ (hR2 v' l')).trans (List.Perm.swap _ _ _)⟩
  | [], [], _, i, l, h => by simp at h
  | [], _ :: _, hl, _, _, _ => by simp at hl
  | _ :: _, [], hl, _, _, _ => by simp at hl
theorem Holds.inAll {g w : World} {L M F : List SProp} (h : Holds g w (All L :: F)) (p : L.Perm M) : Holds g w (All M :: F) := h.head fun _ s => s.perm p
theorem Holds.laneShape {g w : World} {v : Value} {l : List Nat} {F : List SProp} (h : Holds g w (IsLane v l :: F)) : ∃ ao cap, v = .slice ao l.length cap := by
  obtain ⟨_, _, _, _, x, ⟨y, z, _, hx, hp, _⟩, f⟩ := h
  rcases hp with ⟨rfl, rfl⟩ | ⟨q, off, cap, cur, rfl, _⟩
  · exact ⟨_, _, rfl⟩
  · exact ⟨_, _, rfl⟩
/-- A lane that is not at its end. -/
theorem Holds.laneCons {g w : World} {v : Value} {x : Nat} {l : List Nat} {F : List SProp} (h : Holds g w (IsLane v (x :: l) :: F)) :
    ∃ q off cap a', v = .slice (some ⟨q, off, none⟩) (l.length + 1) cap ∧ l.length + 1 ≤ cap ∧ cap ≤ maxLen ∧ w.cell? ⟨q, off, none⟩ = some (.int .u64 (x : Nat)) ∧ q < w.heap.size ∧ (if cap = 1 then some (⟨q, off, none⟩ : Addr) else some ⟨q, off + 1, none⟩) = some a' ∧
      Holds g w (IsLane (.slice (some a') l.length (cap - 1)) l :: F) := by
  have hsh : ∃ q off cap cur, v = .slice (some ⟨q, off, none⟩) (l.length + 1) cap ∧ l.length + 1 ≤ cap ∧ cap ≤ maxLen ∧ (∀ j u, (x :: l)[j]? = some u → cur[off + j]? = some (.int .u64 (u : Nat))) ∧ Holds g w (pts q (.cells cur 67 (0, 0)) :: F) := by
    obtain ⟨a, b, c, z, y, ⟨y1, y2, d, e, hp, s⟩, f⟩ := h
    rcases hp with ⟨_, hn⟩ | ⟨q, off, cap, cur, h1, h2, h3, h4, h5⟩
    · cases hn
    · exact ⟨q, off, cap, cur, h1, h2, h3, h4, a, b, c, z, y, ⟨y1, y2, d, e, h5, s⟩, f⟩
  obtain ⟨q, off, cap, cur, h1, h2, h3, h4, h5⟩ := hsh
  refine ⟨q, off, cap, if cap = 1 then ⟨q, off, none⟩ else ⟨q, off + 1, none⟩, h1, h2, h3, ?_, h5.lt, by split <;> rfl, ?_⟩
  · have := h4 0 x rfl
    exact h5.cell this
  · by_cases hc : cap = 1
    · rw [if_pos hc]
      obtain rfl : l = [] := List.length_eq_zero_iff.1 (by omega)
      exact h5.head fun _ hy => .inr ⟨q, off, cap - 1, cur, rfl, by simp, by omega, fun j u hu => by simp at hu, hy⟩
    · rw [if_neg hc]
      exact h5.head fun _ hy => .inr ⟨q, off + 1, cap - 1, cur, rfl, by omega, by omega, fun j u hu => by
        have := h4 (j + 1) u (by simpa using hu)
        rw [show off + 1 + j = off + (j + 1) by omega]
        exact this, hy⟩
end Go.Proofs.YtbbdimlpofjlfaaGreatDoor
/- Tapes: Left, Next, Pick. -/
namespace Go.Proofs.YtbbdimlpofjlfaaGreatDoor
open Go Go.RowKit

set_option maxRecDepth 100000
set_option maxHeartbeats 1000000
theorem Tape_Left {g w : World} {b : Nat} {t : List (List Nat)} {F : List SProp} (h : Holds g w (IsTape b t :: F)) (lane n : Nat) (hn : (t[lane]?.getD []).length = n) :
    Calls Tryz.prog 292 #[.pointer (some ⟨b, 0, none⟩), .int .i64 (lane : Nat)] w fun r w' => r = .returned (.int .i64 (n : Nat)) ∧ w = w' := by
  obtain ⟨v, vs, hl, h⟩ := h.isTape
  obtain ⟨ao, cap, rfl⟩ := rowForm (Holds.p1 h).ownsRow
  have c0 : w.cell? ⟨b, 0, none⟩ = some (.slice ao t.length cap) := Holds.cell h rfl
  obtain ⟨N, hN⟩ : ∃ N, t.length = N := ⟨_, rfl⟩
  by_cases hlt : lane < N
  · have hlt' : lane < t.length := by omega
    have hti : t[lane]? = some t[lane] := List.getElem?_eq_getElem hlt'
    obtain ⟨l, hl0⟩ : ∃ l, t[lane] = l := ⟨_, rfl⟩
    rw [hl0] at hti
    rw [hti] at hn
    obtain ⟨u, hu, R, hR, _⟩ := Lanes.at hl hti
    rcases (Holds.p1 h).rowShape with ⟨_, h0, _⟩ | ⟨q, cap', he⟩
    · omega
    · obtain ⟨rfl, rfl⟩ : ao = some ⟨q, 0, none⟩ ∧ cap = cap' := by cases he; exact ⟨rfl, rfl⟩
      have cl := Holds.rowCell (Holds.p1 h) hu
      obtain ⟨ao2, cap2, rfl⟩ := Holds.laneShape (Holds.unall ((Holds.p2 h).inAll hR))
      rw [show l.length = n from hn] at cl
      rw [hN] at c0
      clear h hu hR hl hn hti hl0 hlt' hN he
      have f1 : decide ((N : Int) ≤ lane) = false := decide_eq_false (by omega)
      have f2 : decide (N ≤ lane) = false := decide_eq_false (by omega)
      have f3 : (lane : Int) < N := by omega
      have f4 : ¬ (lane : Int) < 0 := by omega
      go_enter Tryz.func292, Tryz.ntmps292
      go_wp2
      go_ret
      exact ⟨rfl, rfl⟩
  · have hti : t[lane]? = none := List.getElem?_eq_none (by omega)
    rw [hti] at hn
    obtain rfl : 0 = n := hn
    rw [hN] at c0
    clear h hl hti hN
    have f1 : decide ((N : Int) ≤ lane) = true := decide_eq_true (by omega)
    have f2 : decide (N ≤ lane) = true := decide_eq_true (by omega)
    have f4 : ¬ (lane : Int) < 0 := by omega
    go_enter Tryz.func292, Tryz.ntmps292
    go_wp2
    go_ret
    exact ⟨rfl, rfl⟩
theorem tNext_none {t : List (List Nat)} {lane : Nat} (h : (t[lane]?.getD []).length = 0) : tNext t lane = t ∧ tHead t lane = 0 := by
  have h' : t[lane]?.getD [] = [] := List.length_eq_zero_iff.1 h
  refine ⟨?_, by unfold tHead; rw [h']; rfl⟩
  unfold tNext
  refine List.ext_getElem? fun j => ?_
  rw [List.getElem?_modify]
  by_cases hj : lane = j
  · subst hj
    cases e : t[lane]? with
    | none => rfl
    | some l =>
      rw [e] at h'
      obtain rfl : l = [] := h'
      simp
  · cases e : t[j]? with
    | none => rfl
    | some l => simp [hj]
theorem tNext_some {t : List (List Nat)} {lane x : Nat} {l : List Nat} (h : t[lane]? = some (x :: l)) : tNext t lane = t.set lane l ∧ tHead t lane = x := by
  refine ⟨?_, by unfold tHead; rw [h]; rfl⟩
  unfold tNext
  refine List.ext_getElem? fun j => ?_
  rw [List.getElem?_modify, List.getElem?_set]
  have hlt : lane < t.length := (List.getElem?_eq_some_iff.1 h).1
  by_cases hj : lane = j
  · subst hj
    rw [h]
    simp [hlt]
  · cases e : t[j]? with
    | none => simp [hj]
    | some l => simp [hj]
theorem Tape_Next {g w : World} {b : Nat} {t : List (List Nat)} {F : List SProp} (h : Holds g w (IsTape b t :: F)) (lane : Nat) :
    Calls Tryz.prog 324 #[.pointer (some ⟨b, 0, none⟩), .int .i64 (lane : Nat)] w fun r w' => r = .returned (.int .u64 (tHead t lane : Nat)) ∧ Holds g w' (IsTape b (tNext t lane) :: F) := by
  cases hL : t[lane]?.getD [] with
  | nil =>
    have cL := hide (Tape_Left h lane 0 (by rw [hL]; rfl))
    obtain ⟨e1, e2⟩ := tNext_none (t := t) (lane := lane) (by rw [hL]; rfl)
    rw [e1, e2]
    have h := hide h
    clear e1 e2 hL
    go_enter Tryz.func324, Tryz.ntmps324
    go_wp2_with (go_at_call 292; (with_reducible refine cL.out.mono ?_); rintro r w1 ⟨rfl, rfl⟩)
    go_ret
    exact ⟨rfl, h.out⟩
  | cons x l =>
    have hti : t[lane]? = some (x :: l) := by
      cases e : t[lane]? with
      | none => rw [e] at hL; cases hL
      | some l' => rw [e] at hL; rw [show l' = x :: l from hL]
    have hlt : lane < t.length := (List.getElem?_eq_some_iff.1 hti).1
    have cL := hide (Tape_Left h lane (l.length + 1) (by rw [hL]; rfl))
    obtain ⟨e1, e2⟩ := tNext_some hti
    rw [e1, e2]
    obtain ⟨v, vs, hl, h⟩ := h.isTape
    rcases (Holds.p1 h).rowShape with ⟨_, h0, _⟩ | ⟨q, cap, rfl⟩
    · omega
    obtain ⟨u, hu, R, hR, hR2⟩ := Lanes.at hl hti
    have c0 : w.cell? ⟨b, 0, none⟩ = some (.slice (some ⟨q, 0, none⟩) t.length cap) := Holds.cell h rfl
    have cl := Holds.rowCell (Holds.p1 h) hu
    have fl := Holds.rowFree (Holds.p1 h) (j := lane)
    obtain ⟨q2, off, cap2, a', rfl, b1, b2, cx, b3, ha', hln⟩ := Holds.laneCons (Holds.unall ((Holds.p2 h).inAll hR))
    obtain ⟨m, hm⟩ : ∃ m, l.length = m := ⟨_, rfl⟩
    rw [hm] at cL cl b1 hln
    obtain ⟨u', hu'⟩ : ∃ u', Value.slice (some a') m (cap2 - 1) = u' := ⟨_, rfl⟩
    rw [hu'] at hln
    have HL : Holds g w (OwnRow 22 1 (.slice (some ⟨q, 0, none⟩) t.length cap) t.length vs :: pts b (.cells #[.slice (some ⟨q, 0, none⟩) t.length cap] 110) :: All (Lanes (vs.set lane u') (t.set lane l)) :: F) := by
      have := (Holds.all (L := IsLane u' l :: R) (F := pts b (.cells #[.slice (some ⟨q, 0, none⟩) t.length cap] 110) :: OwnRow 22 1 (.slice (some ⟨q, 0, none⟩) t.length cap) t.length vs :: F) (by
        have hp : (IsLane u' l :: (R ++ pts b (.cells #[.slice (some ⟨q, 0, none⟩) t.length cap] 110) :: OwnRow 22 1 (.slice (some ⟨q, 0, none⟩) t.length cap) t.length vs :: F)).Perm ((IsLane u' l :: R) ++ pts b (.cells #[.slice (some ⟨q, 0, none⟩) t.length cap] 110) :: OwnRow 22 1 (.slice (some ⟨q, 0, none⟩) t.length cap) t.length vs :: F) := List.Perm.refl _
        exact hln.perm hp)).inAll (hR2 u' l).symm
      exact this.p1.p2
    have HS := hide (HL.rowSet lane u')
    obtain ⟨N, hN⟩ : ∃ N, t.length = N := ⟨_, rfl⟩
    have hset : Hide ((vs.set lane u').length = (t.set lane l).length ∧ (t.set lane l).length = N) := ⟨by rw [List.length_set, List.length_set, hl, hN]; exact ⟨rfl, rfl⟩⟩
    rw [hN] at c0
    have f3 : (lane : Int) < N := by omega
    have f7 : (1 : Int) ≤ (m : Int) + 1 := by omega
    have f5 : ((m : Int) + 1 == 0) = false := by rw [beq_eq_false_iff_ne]; omega
    have f6 : (((m + 1 : Nat) : Int) == 0) = false := by rw [beq_eq_false_iff_ne]; omega
    subst hu'
    have hN := hide hN
    clear h hu hR hR2 hl hti hlt hm HL hln hL e1 e2
    go_enter Tryz.func324, Tryz.ntmps324
    go_upto_region 4 with (go_at_call 292; (with_reducible refine cL.out.mono ?_); rintro r w1 ⟨rfl, rfl⟩)
    go_cut [19] (fun v wx => v = .pointer (some ⟨b, 0, none⟩) ∧ Holds g wx (OwnRow 22 1 (.slice (some ⟨q, 0, none⟩) t.length cap) t.length (vs.set lane (.slice (some a') m (cap2 - 1))) :: pts b (.cells #[.slice (some ⟨q, 0, none⟩) t.length cap] 110) :: All (Lanes (vs.set lane (.slice (some a') m (cap2 - 1))) (t.set lane l)) :: F))
    case first =>
      go_region_law (fail)
      all_goals
        go_wp2
        go_meet
        case rel => exact ⟨rfl, HS.out.drew⟩
    case rest =>
      obtain ⟨rfl, hc⟩ := hcut
      have HC := hide hc
      clear hc HS c0 cl fl cx
      go_wp2
      go_ret
      have H := HC.out
      rw [show t.length = (t.set lane l).length by rw [List.length_set]] at H
      exact ⟨rfl, Holds.toTape hset.out.1 H.p1⟩
/-- Is the next one below? -/
theorem Tape_Pick {g w : World} {b : Nat} {t : List (List Nat)} {F : List SProp} (h : Holds g w (IsTape b t :: F)) (lane x : Nat) (d : Bool) (hd : decide (tHead t lane / 4 < x) = d) :
    Calls Tryz.prog 332 #[.pointer (some ⟨b, 0, none⟩), .int .i64 (lane : Nat), .int .u64 (x : Nat)] w fun r w' => r = .returned (.bool d) ∧ Holds g w' (IsTape b (tNext t lane) :: F) := by
  have cN := hide (Tape_Next h lane)
  obtain ⟨n, hn⟩ : ∃ n, tHead t lane = n := ⟨_, rfl⟩
  rw [hn] at cN hd
  obtain ⟨m, hm⟩ : ∃ m, n / 4 = m := ⟨_, rfl⟩
  rw [hm] at hd
  clear h hn
  go_enter Tryz.func332, Tryz.ntmps332
  go_upto_region 1 with fail
  go_wp2_with (go_at_call 324; (with_reducible refine cN.out.mono ?_); rintro r w1 ⟨rfl, h1⟩; have h1 := hide h1)
  go_ret
  have e : decide ((n : Int) / 4 < (x : Int)) = d := by rw [← hd]; exact decide_eq_decide.2 (by omega)
  exact ⟨by rw [← e]; rfl, h1.out⟩
end Go.Proofs.YtbbdimlpofjlfaaGreatDoor
/- Tapes: New. -/
namespace Go.Proofs.YtbbdimlpofjlfaaGreatDoor
open Go Go.RowKit

theorem infoU64 : (Tryz.prog.info? 67).map (fun i => (i.zero, i.size, i.bytes)) = some (some (.int .u64 0), 1, 8) := by kernel_rfl
theorem infoLane : (Tryz.prog.info? 22).map (fun i => (i.zero, i.size, i.bytes)) = some (some (.slice none 0 0), 1, 24) := by kernel_rfl
theorem sizeU64 : (Tryz.prog.info? 67).map (·.size) = some 1 := by kernel_rfl
theorem nums64_length (l : List Nat) : (nums64 l).length = l.length := by unfold nums64; rw [List.length_map]
theorem nums64_one (l : List Nat) : ∀ u ∈ nums64 l, u.oneCell' = true := fun u hu => by
  unfold nums64 at hu
  obtain ⟨x, _, rfl⟩ := List.mem_map.1 hu
  rfl
theorem Holds.setRow {g w : World} {F : List SProp} {b : Nat} {cs cs' : Array Value} {t : TypeId} {fz : Nat × Nat} (h : Holds g w (pts b (.cells cs t fz) :: F)) : Holds g (w.setRow b cs') (pts b (.cells cs' t fz) :: F) := by
  refine h.turn rfl rfl rfl (by simp [World.setRow]) (setRow_heap w b cs cs' t fz h.block) ?_
  intro i p hi hp
  rw [setRow_other w b i cs' hi]
  exact hp
/-- What is made anew. -/
theorem Holds.made {g w w' : World} {F : List SProp} {e : TypeId} {size n : Nat} {v : Value} {xs : List Value} (h : Holds g w F) (ho : w'.ownsRow g.heap.size e size v n xs) (hg : w.grownBy w' none) (hb : v.ownBlock = some w.heap.size) : Holds g w' (OwnRow e size v n xs :: F) :=
  (h.ownNil e size).grown ho hg (.inr ⟨_, hb, Nat.le_refl _⟩)
/-- A slice that is only read; an empty one may lie anywhere. -/
def RowR (w : World) (v : Value) (xs : List Value) : Prop := RowAt w v xs ∨ (xs = [] ∧ ∃ a cap, v = .slice (some a) 0 cap)
theorem RowR.keep {w w' : World} {v : Value} {xs : List Value} (h : RowR w v xs) (k : Keep w w') : RowR w' v xs := h.imp (fun h => h.keep k) id
theorem RowR.shape {w : World} {v : Value} {xs : List Value} (h : RowR w v xs) : ∃ ao cap, v = .slice ao xs.length cap := by
  rcases h with h | ⟨rfl, a, cap, rfl⟩
  · exact h.shape
  · exact ⟨_, _, rfl⟩
/-- A lane's own row, filled. -/
theorem wpList_copy_lane {g w : World} {F : List SProp} {ops : Array Oper} {rest : List Oper} {o : Oper} {a : Act} {Q : Exit → Act → World → Prop} (hgd : o.guard = none) (d s : Operand)
    (ho : o.op = .call { callee := .builtin .copy, args := #[d, s], argTypes := #[22, 22] }) {k m : Nat} {xs : List Value} {u : Value} {l : List Nat}
    (h : Holds g w (OwnRow 67 1 (.slice (some ⟨k, 0, none⟩) m m) m xs :: F)) (hu : RowR w u (nums64 l)) (hm : l.length = m) (hd : a.eval d = .slice (some ⟨k, 0, none⟩) m m) (hs : a.eval s = u)
    (hK : ∀ w', Holds g w' (IsLane (.slice (some ⟨k, 0, none⟩) m m) l :: F) → wpList Tryz.prog ops Q rest (a.put o.dst (goInt m)) w') : wpList Tryz.prog ops Q (o :: rest) a w := by
  obtain ⟨cur, hc, hp⟩ := h.rowPts
  have hcs := hc.curs
  have hmx := hc.max
  rcases hu with (⟨rfl, h0⟩ | ⟨b, off, cap, hu, h1, h2, h3⟩) | ⟨h0, a0, c0, rfl⟩
  · have hl0 : l = [] := List.length_eq_zero_iff.1 (by have := congrArg List.length h0; rwa [nums64_length] at this)
    subst hl0
    obtain rfl : 0 = m := hm
    refine wpList_copy_nothing hgd d s _ _ ho 67 Tryz.underlying22 sizeU64 _ _ _ _ _ _ hd hs (by simp) ?_
    exact hK w (hp.head fun _ hy => .inr ⟨k, 0, 0, cur, rfl, Nat.le_refl _, by simp only [maxLen]; omega, fun j x hx => by simp at hx, hy⟩)
  · rw [nums64_length, hm] at hu
    rw [hu] at hs
    refine wpList_copy_own hgd d s _ _ ho 67 Tryz.underlying22 sizeU64 k 0 m m ⟨b, off, none⟩ m cap hd hs cur 67 hp.block (nums64 l) (by rw [nums64_length, hm]; exact (Nat.min_self m).symm) (fun j v hv => ?_) (by rw [nums64_length, hm, hcs]; omega) (nums64_one l) ?_
    · have hadd : (⟨b, off, none⟩ : Addr).add j = ⟨b, off + j, none⟩ := by unfold Addr.add; split <;> simp_all
      rw [hadd]
      exact h3 j v hv
    · rw [nums64_length, hm]
      refine hK _ (hp.setRow.head fun _ hy => .inr ⟨k, 0, m, _, by rw [hm], by rw [hm]; exact Nat.le_refl _, hmx, fun j x hx => ?_, hy⟩)
      have hj : j < l.length := (List.getElem?_eq_some_iff.1 hx).1
      rw [Nat.zero_add, List.take_zero, List.nil_append, List.getElem?_toArray, Nat.zero_add, List.getElem?_append_left (by rw [nums64_length]; exact hj)]
      unfold nums64
      rw [List.getElem?_map, hx]
      rfl
  · have hl0 : l = [] := List.length_eq_zero_iff.1 (by have := congrArg List.length h0; rwa [nums64_length] at this)
    subst hl0
    obtain rfl : 0 = m := hm
    refine wpList_copy_nothing hgd d s _ _ ho 67 Tryz.underlying22 sizeU64 _ _ _ _ _ _ hd hs (by simp) ?_
    exact hK w (hp.head fun _ hy => .inr ⟨k, 0, 0, cur, rfl, Nat.le_refl _, by simp only [maxLen]; omega, fun j x hx => by simp at hx, hy⟩)
theorem Lanes.snoc : ∀ {vs : List Value} {t : List (List Nat)}, vs.length = t.length → ∀ (v : Value) (l : List Nat), (Lanes (vs ++ [v]) (t ++ [l])).Perm (IsLane v l :: Lanes vs t)
  | [], [], _, _, _ => List.Perm.refl _
  | u :: vs, m :: t, h, v, l => (List.Perm.cons _ (Lanes.snoc (by simpa using h) v l)).trans (List.Perm.swap _ _ _)
  | [], _ :: _, h, _, _ => by simp at h
  | _ :: _, [], h, _, _ => by simp at h
theorem Holds.lanesSnoc {g w : World} {F : List SProp} {vs : List Value} {t : List (List Nat)} {v : Value} {l : List Nat} (hl : vs.length = t.length) (h : Holds g w (IsLane v l :: All (Lanes vs t) :: F)) : Holds g w (All (Lanes (vs ++ [v]) (t ++ [l])) :: F) := by
  have h1 : Holds g w (Lanes vs t ++ IsLane v l :: F) := h.p1.unall
  have h2 : Holds g w ((IsLane v l :: Lanes vs t) ++ F) := h1.perm (List.perm_middle)
  exact (Holds.all h2).inAll (Lanes.snoc hl v l).symm
set_option maxRecDepth 100000
set_option maxHeartbeats 1000000
theorem Draw_New {g w : World} {v : Value} {us : List Value} {ls : List (List Nat)} {F : List SProp} (h : Holds g w (OwnRow 22 1 v us.length us :: F)) (hul : us.length = ls.length) (hlen : ls.length ≤ 1000) (hll : ∀ l ∈ ls, l.length ≤ 100000)
    (hg : ∀ wx, Holds g wx (OwnRow 22 1 v us.length us :: F) → ∀ (i : Nat) (u : Value) (l : List Nat), us[i]? = some u → ls[i]? = some l → RowR wx u (nums64 l)) :
    Calls Tryz.prog 13 #[v] w fun r w' => ∃ b, r = .returned (.pointer (some ⟨b, 0, none⟩)) ∧ Holds g w' (IsTape b ls :: OwnRow 22 1 v us.length us :: F) := by
  obtain ⟨ao, cap, rfl⟩ := rowForm h.ownsRow
  obtain ⟨n, hn⟩ : ∃ n, us.length = n := ⟨_, rfl⟩
  rw [hn] at h hg hul ⊢
  obtain ⟨tb, htb⟩ : ∃ tb, w.heap.size = tb := ⟨_, rfl⟩
  have HA := (h.alloc (o := .cells #[.slice none 0 0] 110)).ownNil 22 1
  rw [htb] at HA
  replace HA := hide HA
  replace hn := hide hn
  replace hul := hide hul
  replace hlen := hide hlen
  replace hll := hide hll
  replace hg := hide hg
  obtain ⟨ii, hi, hz0, hz1, hz2⟩ := info_parts infoLane
  obtain ⟨jj, hj, hy0, hy1, hy2⟩ := info_parts infoU64
  replace hi := hide hi
  replace hz0 := hide hz0
  replace hz1 := hide hz1
  replace hz2 := hide hz2
  replace hj := hide hj
  replace hy0 := hide hy0
  replace hy1 := hide hy1
  replace hy2 := hide hy2
  clear h
  go_enter Tryz.func13, Tryz.ntmps13
  go_wp2
  try simp only [htb]
  clear htb
  go_loopg [11] (n) (fun c x wr => ∃ i vt vs, Hide (n - i = c) ∧ i ≤ n ∧ x = .int .i64 (i : Nat) ∧ Hide (vs.length = i) ∧ Holds g wr (pts tb (.cells #[vt] 110) :: OwnRow 22 1 vt i vs :: All (Lanes vs (ls.take i)) :: OwnRow 22 1 (.slice ao n cap) n us :: F))
  case atStart => exact ⟨0, _, [], ⟨rfl⟩, Nat.zero_le _, rfl, ⟨rfl⟩, Holds.p2 (Holds.all (L := []) HA.out.p1).p2⟩
  case round =>
    clear HA
    obtain ⟨i, vt, vs, hci, hin, rfl, hvs, hh⟩ := hrel
    by_cases hlt : i < n
    · have hlt' : (i : Int) < n := by omega
      have e1 : IntKind.i64.wrap ((i : Int) + 1) = (i : Int) + 1 := IntWalk.i64_in _ (by have := hlen.out; have := hul.out; omega)
      obtain ⟨u, hu⟩ : ∃ u, us[i]? = some u := ⟨_, List.getElem?_eq_getElem (by have := hn.out; omega)⟩
      obtain ⟨l, hl⟩ : ∃ l, ls[i]? = some l := ⟨_, List.getElem?_eq_getElem (by have := hul.out; omega)⟩
      replace hu := hide hu
      replace hl := hide hl
      have hlm := hide (hll.out l (List.mem_of_getElem? hl.out))
      obtain ⟨m, hm⟩ : ∃ m, l.length = m := ⟨_, rfl⟩
      have hrow := fun wx hx => hg.out wx hx i u l hu.out hl.out
      obtain ⟨ao2, cap2, hush⟩ := (hrow wr (Holds.drop (Holds.drop (Holds.drop hh)))).shape
      rw [nums64_length, hm] at hush
      subst hush
      rcases (Holds.p3 hh).rowShape with ⟨_, h0, _⟩ | ⟨q, cap', he⟩
      · omega
      obtain ⟨rfl, rfl⟩ : ao = some ⟨q, 0, none⟩ ∧ cap = cap' := by cases he; exact ⟨rfl, rfl⟩
      have cu := Holds.rowCell (Holds.p3 hh) hu.out
      replace hrow := hide hrow
      replace hm := hide hm
      replace hh := hide hh
      obtain ⟨ao3, cap3, rfl⟩ := rowForm (Holds.p1 hh.out).ownsRow
      clear he
      go_wp2_with (first
        | (at_make; refine wpList_make_full _ rfl _ _ 22 rfl g.heap.size 67 jj (.int .u64 0) 1 Tryz.underlying22 hj.out hy0.out hy1.out .i64 .i64 (m : Nat) (m : Nat) m rfl rfl rfl rfl (by rw [hy2.out]; have := hlm.out; have := hm.out; omega) (by simp only [maxLen]; have := hlm.out; have := hm.out; omega) hh.out.size ?_; intro wn o1 g1; have H2 := hide (hh.out.made o1 g1 rfl); clear o1 g1)
        | (refine wpList_copy_lane rfl _ _ rfl H2.out (hrow.out _ (Holds.drop (Holds.drop (Holds.drop H2.out.drop)))) hm.out rfl rfl ?_; intro w3 h3; have H3 := hide h3; have y0 := Holds.cell (off := 0) (Holds.p1 h3) rfl; clear h3; have H12 := hide (H3.out.p1.alloc' (o := .cells #[.slice (some ⟨wr.heap.size, 0, none⟩) m m] 22)))
        | (at_builtin; refine wpList_append_own_at _ rfl _ _ 108 rfl g.heap.size 22 ii (.slice none 0 0) 1 24 Tryz.underlying108 hi.out hz0.out hz1.out hz2.out rfl (by decide) _ i vs rfl (Holds.p2 H12.out).ownsRow _ 1 _ [.slice (some ⟨wr.heap.size, 0, none⟩) m m] rfl rfl (newCells1 _ _ _ _ (by simp)) (by simp [Value.oneCell']) (by simp only [maxLen]; have := hlen.out; have := hul.out; omega) (by have := hlen.out; have := hul.out; omega) (Holds.p2 H12.out).size ?_; intro vn wn2 o1 g1 _ hb1; obtain ⟨ao4, cap4, rfl⟩ := rowForm o1; have H13 := hide ((Holds.p2 H12.out).grown o1 g1 (by rcases hb1 with hb1 | hb1 <;> first | exact .inl hb1 | exact .inr ⟨_, hb1, Nat.le_refl _⟩)); have y9 := Holds.free (off := 0) (Holds.p1 H13.out); have p9 := Holds.cell (off := 0) (Holds.p1 H13.out) rfl; clear o1 g1 hb1))
      have hti : ls.take (i + 1) = ls.take i ++ [l] := by rw [List.take_add_one, hl.out]; rfl
      have hlt2 : vs.length = (ls.take i).length := by rw [hvs.out, List.length_take]; have := hul.out; omega
      have H := (H13.out.p1.setCell (off := 0) (v := .slice ao4 (i + 1) cap4)).p3.p3
      have H2 := (Holds.lanesSnoc hlt2 H).p2.p2
      go_roundg (n - (i + 1))
      case measure => rw [← hci.out]; omega
      case rel => exact ⟨i + 1, .slice ao4 (i + 1) cap4, vs ++ [.slice (some ⟨wr.heap.size, 0, none⟩) m m], ⟨rfl⟩, by omega, rfl, ⟨by rw [List.length_append, hvs.out]; rfl⟩, by rw [hti]; exact H2⟩
    · obtain rfl : i = n := by omega
      have hlt' : ¬ (i : Int) < i := by omega
      go_wp2
      go_ret
      refine ⟨tb, rfl, ?_⟩
      have hti : ls.take i = ls := List.take_of_length_le (by have := hul.out; omega)
      rw [hti, hul.out] at hh
      rw [hul.out]
      exact Holds.toTape (hvs.out.trans hul.out) hh
end Go.Proofs.YtbbdimlpofjlfaaGreatDoor
