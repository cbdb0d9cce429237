/- What arc does, with no program in sight. -/
import Derived.Test.YtbbdimlpofjlfaaGreatDoorQTwInv
import Derived.Test.YtbbdimlpofjlfaaGreatDoorQSr4
namespace Go.Proofs.YtbbdimlpofjlfaaGreatDoor
open Go Go.RowKit

structure Arc where
  most : Nat
  p : Nat
  t1 : List ByteArray
  t2 : List ByteArray
  b1 : List ByteArray
  b2 : List ByteArray
def Arc.new (most : Nat) : Arc := ⟨most, 0, [], [], [], []⟩
def Arc.at (s : Arc) (k : ByteArray) : Int := if k ∈ s.t1 then 0 else if k ∈ s.t2 then 1 else if k ∈ s.b1 then 2 else if k ∈ s.b2 then 3 else 4
def Arc.has (s : Arc) (k : ByteArray) : Bool := decide (k ∈ s.t1) || decide (k ∈ s.t2)
def Arc.len (s : Arc) : Nat := s.t1.length + s.t2.length
def Arc.size (s : Arc) : Nat := s.t1.length + s.t2.length + s.b1.length + s.b2.length
/-- Is the first row the one that gives? -/
def Arc.first (s : Arc) (second : Bool) : Bool := decide (0 < s.t1.length) && (decide (s.p < s.t1.length) || (second && decide (s.t1.length = s.p)) || decide (s.t2.length = 0))
def Arc.yield (s : Arc) (second : Bool) : Arc × ByteArray × Bool :=
  if s.first second then ({ s with t1 := s.t1.dropLast, b1 := kFront s.b1 (kLast s.t1) }, kLast s.t1, true)
  else if s.t2 = [] then (s, bNil, false) else ({ s with t2 := s.t2.dropLast, b2 := kFront s.b2 (kLast s.t2) }, kLast s.t2, true)
def Arc.room (s : Arc) (second : Bool) : Arc × ByteArray × Bool := if s.len < s.most then (s, bNil, false) else s.yield second
def Arc.fresh (s : Arc) : Arc × ByteArray × Bool :=
  if s.most ≤ s.t1.length + s.b1.length then
    if s.most ≤ s.t1.length then ({ s with t1 := s.t1.dropLast }, kLast s.t1, !s.t1.isEmpty) else Arc.room { s with b1 := s.b1.dropLast } false
  else if s.most + s.most ≤ s.size then Arc.room { s with b2 := s.b2.dropLast } false
  else if s.size < s.most then (s, bNil, false)
  else s.room false
def Arc.off (s : Arc) (k : ByteArray) : Arc :=
  if k ∈ s.t1 then { s with t1 := kDel s.t1 k } else if k ∈ s.t2 then { s with t2 := kDel s.t2 k } else if k ∈ s.b1 then { s with b1 := kDel s.b1 k } else { s with b2 := kDel s.b2 k }
def Arc.req (s : Arc) (k : ByteArray) : Arc × Stp :=
  if s.most = 0 then (s, ⟨s.has k, bNil, false⟩)
  else if k ∈ s.t1 then ({ s with t1 := kDel s.t1 k, t2 := kFront s.t2 k }, ⟨true, bNil, false⟩)
  else if k ∈ s.t2 then ({ s with t2 := kFront (kDel s.t2 k) k }, ⟨true, bNil, false⟩)
  else if k ∈ s.b1 then
    let r := Arc.room { s with p := min s.most (s.p + max 1 (s.b2.length / s.b1.length)) } false
    ({ r.1 with b1 := kDel r.1.b1 k, t2 := kFront r.1.t2 k }, ⟨false, r.2.1, r.2.2⟩)
  else if k ∈ s.b2 then
    let r := Arc.room { s with p := s.p - max 1 (s.b1.length / s.b2.length) } true
    ({ r.1 with b2 := kDel r.1.b2 k, t2 := kFront r.1.t2 k }, ⟨false, r.2.1, r.2.2⟩)
  else
    let r := s.fresh
    ({ r.1 with t1 := kFront r.1.t1 k }, ⟨false, r.2.1, r.2.2⟩)
def Arc.victim (s : Arc) : ByteArray × Bool :=
  if s.most ≤ s.t1.length then (kLast s.t1, !s.t1.isEmpty) else if s.first false then (kLast s.t1, !s.t1.isEmpty) else (kLast s.t2, !s.t2.isEmpty)
def Arc.drop (s : Arc) : Arc := if s.victim.2 then s.off s.victim.1 else s
def Arc.trim (s : Arc) : Arc :=
  let b1 := s.b1.take (s.most - s.t1.length)
  { s with b1 := b1, b2 := s.b2.take (s.most + s.most - (s.t1.length + s.t2.length + b1.length)) }
def Arc.adopt (s : Arc) (k : ByteArray) : Arc × Bool :=
  if s.has k = true ∨ s.most ≤ s.len then (s, false)
  else
    let s1 := s.off k
    (Arc.trim { s1 with t1 := kFront s1.t1 k }, true)
def Arc.yieldN : Nat → Arc → Arc × List ByteArray
  | 0, s => (s, [])
  | i + 1, s => ((Arc.yieldN i (s.yield false).1).1, (s.yield false).2.1 :: (Arc.yieldN i (s.yield false).1).2)
def Arc.resize (s : Arc) (most : Nat) : Arc × List ByteArray :=
  let s1 : Arc := { s with most := most, p := min s.p most }
  let r := Arc.yieldN (s1.len - most) s1
  (r.1.trim, r.2)
def Arc.keys (s : Arc) : List ByteArray := s.t1.reverse ++ s.t2.reverse
def Arc.ghosts (s : Arc) : List ByteArray := s.b1 ++ s.b2
end Go.Proofs.YtbbdimlpofjlfaaGreatDoor
/- arc in memory: New, at, Has, Len, from. -/
namespace Go.Proofs.YtbbdimlpofjlfaaGreatDoor
open Go Go.RowKit

def arcCells (s : Arc) (q0 q1 q2 q3 : Nat) : Array Value := #[.int .i64 (s.most : Nat), .int .i64 (s.p : Nat), .pointer (some ⟨q0, 0, none⟩), .pointer (some ⟨q1, 0, none⟩), .pointer (some ⟨q2, 0, none⟩), .pointer (some ⟨q3, 0, none⟩)]
def ArcRaw (b q0 q1 q2 q3 : Nat) (s : Arc) (F : List SProp) : List SProp :=
  pts b (.cells (arcCells s q0 q1 q2 q3) 262) :: IsList q0 s.t1 :: IsList q1 s.t2 :: IsList q2 s.b1 :: IsList q3 s.b2 :: F
/-- An arc cache at block b. -/
def IsArc (b : Nat) (s : Arc) : SProp := fun h => ∃ q0 q1 q2 q3, All [pts b (.cells (arcCells s q0 q1 q2 q3) 262), IsList q0 s.t1, IsList q1 s.t2, IsList q2 s.b1, IsList q3 s.b2] h
theorem Holds.isArc {g w : World} {b : Nat} {s : Arc} {F : List SProp} (h : Holds g w (IsArc b s :: F)) : ∃ q0 q1 q2 q3, Holds g w (ArcRaw b q0 q1 q2 q3 s F) := by
  obtain ⟨q0, h⟩ := h.unex
  obtain ⟨q1, h⟩ := h.unex
  obtain ⟨q2, h⟩ := h.unex
  obtain ⟨q3, h⟩ := h.unex
  exact ⟨q0, q1, q2, q3, h.unall⟩
theorem Holds.toArc {g w : World} {b q0 q1 q2 q3 : Nat} {s : Arc} {F : List SProp} (h : Holds g w (ArcRaw b q0 q1 q2 q3 s F)) : Holds g w (IsArc b s :: F) := by
  have h' : Holds g w (All [pts b (.cells (arcCells s q0 q1 q2 q3) 262), IsList q0 s.t1, IsList q1 s.t2, IsList q2 s.b1, IsList q3 s.b2] :: F) := Holds.all h
  exact h'.head fun x hx => ⟨q0, q1, q2, q3, hx⟩
theorem arcc {g w : World} {b q0 q1 q2 q3 : Nat} {s : Arc} {F : List SProp} (h : Holds g w (pts b (.cells (arcCells s q0 q1 q2 q3) 262) :: F)) :
    w.cell? ⟨b, 0, none⟩ = some (.int .i64 (s.most : Nat)) ∧ w.cell? ⟨b, 1, none⟩ = some (.int .i64 (s.p : Nat)) ∧ w.cell? ⟨b, 2, none⟩ = some (.pointer (some ⟨q0, 0, none⟩)) ∧ w.cell? ⟨b, 3, none⟩ = some (.pointer (some ⟨q1, 0, none⟩)) ∧ w.cell? ⟨b, 4, none⟩ = some (.pointer (some ⟨q2, 0, none⟩)) ∧ w.cell? ⟨b, 5, none⟩ = some (.pointer (some ⟨q3, 0, none⟩)) :=
  ⟨Holds.cell h rfl, Holds.cell h rfl, Holds.cell h rfl, Holds.cell h rfl, Holds.cell h rfl, Holds.cell h rfl⟩
set_option maxRecDepth 100000
set_option maxHeartbeats 2000000
theorem Arc_at {g w : World} {b : Nat} {s : Arc} {F : List SProp} (h : Holds g w (IsArc b s :: F)) (k : ByteArray) (i : Int) (hi : s.at k = i) :
    Calls Tryz.prog 182 #[.pointer (some ⟨b, 0, none⟩), .string k] w fun r w' => r = .returned (.int .i64 i) ∧ w = w' := by
  obtain ⟨q0, q1, q2, q3, h⟩ := h.isArc
  obtain ⟨_, _, c2, c3, c4, c5⟩ := arcc h
  obtain ⟨d0, h0⟩ : ∃ d, decide (k ∈ s.t1) = d := ⟨_, rfl⟩
  obtain ⟨d1, h1⟩ : ∃ d, decide (k ∈ s.t2) = d := ⟨_, rfl⟩
  obtain ⟨d2, h2⟩ : ∃ d, decide (k ∈ s.b1) = d := ⟨_, rfl⟩
  obtain ⟨d3, h3⟩ : ∃ d, decide (k ∈ s.b2) = d := ⟨_, rfl⟩
  have H0 := hide (List_Has (Holds.p1 h) k d0 h0)
  have H1 := hide (List_Has (Holds.p2 h) k d1 h1)
  have H2 := hide (List_Has (Holds.p3 h) k d2 h2)
  have H3 := hide (List_Has (Holds.p4 h) k d3 h3)
  have hr : (if d0 then 0 else if d1 then 1 else if d2 then 2 else if d3 then 3 else 4 : Int) = i := by
    rw [← hi, ← h0, ← h1, ← h2, ← h3]
    unfold Arc.at
    simp only [decide_eq_true_eq]
  replace hr := hide hr
  clear h hi h0 h1 h2 h3
  have i0 : ∀ w : World, (Instr.index 260 (.agg #[.pointer (some ⟨q0, 0, none⟩), .pointer (some ⟨q1, 0, none⟩), .pointer (some ⟨q2, 0, none⟩), .pointer (some ⟨q3, 0, none⟩)]) (.int .i64 0)).run Tryz.prog w = .ok (.pointer (some ⟨q0, 0, none⟩)) w := fun _ => by kernel_rfl
  have i1 : ∀ w : World, (Instr.index 260 (.agg #[.pointer (some ⟨q0, 0, none⟩), .pointer (some ⟨q1, 0, none⟩), .pointer (some ⟨q2, 0, none⟩), .pointer (some ⟨q3, 0, none⟩)]) (.int .i64 1)).run Tryz.prog w = .ok (.pointer (some ⟨q1, 0, none⟩)) w := fun _ => by kernel_rfl
  have i2 : ∀ w : World, (Instr.index 260 (.agg #[.pointer (some ⟨q0, 0, none⟩), .pointer (some ⟨q1, 0, none⟩), .pointer (some ⟨q2, 0, none⟩), .pointer (some ⟨q3, 0, none⟩)]) (.int .i64 2)).run Tryz.prog w = .ok (.pointer (some ⟨q2, 0, none⟩)) w := fun _ => by kernel_rfl
  have i3 : ∀ w : World, (Instr.index 260 (.agg #[.pointer (some ⟨q0, 0, none⟩), .pointer (some ⟨q1, 0, none⟩), .pointer (some ⟨q2, 0, none⟩), .pointer (some ⟨q3, 0, none⟩)]) (.int .i64 3)).run Tryz.prog w = .ok (.pointer (some ⟨q3, 0, none⟩)) w := fun _ => by kernel_rfl
  cases d0
  · cases d1
    · cases d2
      · cases d3
        · go_enter Tryz.func182, Tryz.ntmps182
          go_wp2
          refine wp_loop_rounds 5 ?_
          rw [rounds_succ]
          go_wp2_with (go_at_call 160; (with_reducible refine H0.out.mono ?_); rintro r w1 ⟨rfl, rfl⟩)
          rw [rounds_succ]
          go_wp2_with (go_at_call 160; (with_reducible refine H1.out.mono ?_); rintro r w1 ⟨rfl, rfl⟩)
          rw [rounds_succ]
          go_wp2_with (go_at_call 160; (with_reducible refine H2.out.mono ?_); rintro r w1 ⟨rfl, rfl⟩)
          rw [rounds_succ]
          go_wp2_with (go_at_call 160; (with_reducible refine H3.out.mono ?_); rintro r w1 ⟨rfl, rfl⟩)
          rw [rounds_succ]
          go_wp2
          go_ret
          exact ⟨by rw [← hr.out]; rfl, rfl⟩
        · go_enter Tryz.func182, Tryz.ntmps182
          go_wp2
          refine wp_loop_rounds 5 ?_
          rw [rounds_succ]
          go_wp2_with (go_at_call 160; (with_reducible refine H0.out.mono ?_); rintro r w1 ⟨rfl, rfl⟩)
          rw [rounds_succ]
          go_wp2_with (go_at_call 160; (with_reducible refine H1.out.mono ?_); rintro r w1 ⟨rfl, rfl⟩)
          rw [rounds_succ]
          go_wp2_with (go_at_call 160; (with_reducible refine H2.out.mono ?_); rintro r w1 ⟨rfl, rfl⟩)
          rw [rounds_succ]
          go_wp2_with (go_at_call 160; (with_reducible refine H3.out.mono ?_); rintro r w1 ⟨rfl, rfl⟩)
          go_ret
          exact ⟨by rw [← hr.out]; rfl, rfl⟩
      · go_enter Tryz.func182, Tryz.ntmps182
        go_wp2
        refine wp_loop_rounds 5 ?_
        rw [rounds_succ]
        go_wp2_with (go_at_call 160; (with_reducible refine H0.out.mono ?_); rintro r w1 ⟨rfl, rfl⟩)
        rw [rounds_succ]
        go_wp2_with (go_at_call 160; (with_reducible refine H1.out.mono ?_); rintro r w1 ⟨rfl, rfl⟩)
        rw [rounds_succ]
        go_wp2_with (go_at_call 160; (with_reducible refine H2.out.mono ?_); rintro r w1 ⟨rfl, rfl⟩)
        go_ret
        exact ⟨by rw [← hr.out]; rfl, rfl⟩
    · go_enter Tryz.func182, Tryz.ntmps182
      go_wp2
      refine wp_loop_rounds 5 ?_
      rw [rounds_succ]
      go_wp2_with (go_at_call 160; (with_reducible refine H0.out.mono ?_); rintro r w1 ⟨rfl, rfl⟩)
      rw [rounds_succ]
      go_wp2_with (go_at_call 160; (with_reducible refine H1.out.mono ?_); rintro r w1 ⟨rfl, rfl⟩)
      go_ret
      exact ⟨by rw [← hr.out]; rfl, rfl⟩
  · go_enter Tryz.func182, Tryz.ntmps182
    go_wp2
    refine wp_loop_rounds 5 ?_
    rw [rounds_succ]
    go_wp2_with (go_at_call 160; (with_reducible refine H0.out.mono ?_); rintro r w1 ⟨rfl, rfl⟩)
    go_ret
    exact ⟨by rw [← hr.out]; rfl, rfl⟩
theorem Arc.at_has (s : Arc) (k : ByteArray) : decide (s.at k ≤ 1) = s.has k := by
  unfold Arc.at Arc.has
  by_cases h0 : k ∈ s.t1
  · simp [h0]
  · by_cases h1 : k ∈ s.t2
    · simp [h0, h1]
    · by_cases h2 : k ∈ s.b1
      · simp [h0, h1, h2]
      · by_cases h3 : k ∈ s.b2
        · simp [h0, h1, h2, h3]
        · simp [h0, h1, h2, h3]
theorem Arc_Has {g w : World} {b : Nat} {s : Arc} {F : List SProp} (h : Holds g w (IsArc b s :: F)) (k : ByteArray) (d : Bool) (hd : s.has k = d) :
    Calls Tryz.prog 103 #[.pointer (some ⟨b, 0, none⟩), .string k] w fun r w' => r = .returned (.bool d) ∧ w = w' := by
  obtain ⟨i, hi⟩ : ∃ i, s.at k = i := ⟨_, rfl⟩
  have hd2 : decide (i ≤ 1) = d := by rw [← hi, Arc.at_has]; exact hd
  have cA := hide (Arc_at h k i hi)
  clear h hd hi
  go_enter Tryz.func103, Tryz.ntmps103
  go_wp2_with (go_at_call 182; (with_reducible refine cA.out.mono ?_); rintro r w1 ⟨rfl, rfl⟩)
  go_ret
  exact ⟨by first | rfl | rw [hd2], rfl⟩
theorem Arc_Len {g w : World} {b : Nat} {s : Arc} {F : List SProp} (h : Holds g w (IsArc b s :: F)) (n : Nat) (hn : s.len = n) (hl : s.len < 1000000) :
    Calls Tryz.prog 104 #[.pointer (some ⟨b, 0, none⟩)] w fun r w' => r = .returned (.int .i64 (n : Nat)) ∧ ∃ m, w' = w.drewN m := by
  obtain ⟨q0, q1, q2, q3, h⟩ := h.isArc
  obtain ⟨_, _, c2, c3, _, _⟩ := arcc h
  obtain ⟨n0, h0⟩ : ∃ n, s.t1.length = n := ⟨_, rfl⟩
  obtain ⟨n1, h1⟩ : ∃ n, s.t2.length = n := ⟨_, rfl⟩
  have hn' : n0 + n1 = n := by rw [← h0, ← h1]; exact hn
  have e : IntKind.i64.wrap ((n0 : Int) + (n1 : Int)) = (n : Int) := by rw [IntWalk.i64_in _ (by unfold Arc.len at hl; omega)]; omega
  have L0 := hide (fun m => List_Len (Holds.p1 (h.drewN (n := m))) n0 h0)
  have L1 := hide (fun m => List_Len (Holds.p2 (h.drewN (n := m))) n1 h1)
  clear h hn hl h0 h1 hn'
  go_enter Tryz.func104, Tryz.ntmps104
  go_wp2
  go_quiet ((first
    | (go_at_call 161; exact Calls.quiet_eq (L0.out _))
    | (go_at_call 161; exact Calls.quiet_eq (L1.out _))))
  go_wp2
  go_ret
  exact ⟨rfl, nq, rfl⟩
end Go.Proofs.YtbbdimlpofjlfaaGreatDoor
/- arc in memory: from, yield, room. -/
namespace Go.Proofs.YtbbdimlpofjlfaaGreatDoor
open Go Go.RowKit

set_option maxRecDepth 100000
set_option maxHeartbeats 2000000
theorem Arc_from {g w : World} {b : Nat} {s : Arc} {F : List SProp} (h : Holds g w (IsArc b s :: F)) (second : Bool) (i : Int) (hi : (if s.first second = true then 0 else 1 : Int) = i) :
    Calls Tryz.prog 186 #[.pointer (some ⟨b, 0, none⟩), .bool second] w fun r w' => r = .returned (.int .i64 i) ∧ w = w' := by
  obtain ⟨q0, q1, q2, q3, h⟩ := h.isArc
  obtain ⟨_, c1, c2, c3, _, _⟩ := arcc h
  obtain ⟨n0, h0⟩ : ∃ n, s.t1.length = n := ⟨_, rfl⟩
  obtain ⟨n1, h1⟩ : ∃ n, s.t2.length = n := ⟨_, rfl⟩
  obtain ⟨p, hp⟩ : ∃ n, s.p = n := ⟨_, rfl⟩
  have L0 := hide (List_Len (Holds.p1 h) n0 h0)
  have L1 := hide (List_Len (Holds.p2 h) n1 h1)
  rw [hp] at c1
  unfold Arc.first at hi
  rw [h0, h1, hp] at hi
  clear h h0 h1 hp
  by_cases g0 : 0 < n0
  · have g0' : (0 : Int) < n0 := by omega
    by_cases g1 : p < n0
    · have g1' : (p : Int) < n0 := by omega
      rw [decide_eq_true g0, decide_eq_true g1, Bool.true_or, Bool.true_or, Bool.and_self, if_pos rfl] at hi
      subst hi
      (go_enter Tryz.func186, Tryz.ntmps186; go_wp2_with (first | (go_at_call 161; (with_reducible refine L0.out.mono ?_); rintro r w1 ⟨rfl, rfl⟩) | (go_at_call 161; (with_reducible refine L1.out.mono ?_); rintro r w1 ⟨rfl, rfl⟩)); go_ret; exact ⟨rfl, rfl⟩)
    · have g1' : ¬ (p : Int) < n0 := by omega
      rw [decide_eq_true g0, decide_eq_false g1, Bool.false_or, Bool.true_and] at hi
      by_cases g3 : n1 = 0
      · have g3' : ((n1 : Int) == 0) = true := by rw [g3]; rfl
        rw [decide_eq_true g3, Bool.or_true, if_pos rfl] at hi
        subst hi
        clear g3
        by_cases g2 : n0 = p
        · have g2' : ((n0 : Int) == (p : Int)) = true := by rw [g2]; exact beq_self_eq_true _
          clear g2
          cases second
          · (go_enter Tryz.func186, Tryz.ntmps186; go_wp2_with (first | (go_at_call 161; (with_reducible refine L0.out.mono ?_); rintro r w1 ⟨rfl, rfl⟩) | (go_at_call 161; (with_reducible refine L1.out.mono ?_); rintro r w1 ⟨rfl, rfl⟩)); go_ret; exact ⟨rfl, rfl⟩)
          · (go_enter Tryz.func186, Tryz.ntmps186; go_wp2_with (first | (go_at_call 161; (with_reducible refine L0.out.mono ?_); rintro r w1 ⟨rfl, rfl⟩) | (go_at_call 161; (with_reducible refine L1.out.mono ?_); rintro r w1 ⟨rfl, rfl⟩)); go_ret; exact ⟨rfl, rfl⟩)
        · have g2' : ((n0 : Int) == (p : Int)) = false := by rw [beq_eq_false_iff_ne]; omega
          clear g2
          cases second
          · (go_enter Tryz.func186, Tryz.ntmps186; go_wp2_with (first | (go_at_call 161; (with_reducible refine L0.out.mono ?_); rintro r w1 ⟨rfl, rfl⟩) | (go_at_call 161; (with_reducible refine L1.out.mono ?_); rintro r w1 ⟨rfl, rfl⟩)); go_ret; exact ⟨rfl, rfl⟩)
          · (go_enter Tryz.func186, Tryz.ntmps186; go_wp2_with (first | (go_at_call 161; (with_reducible refine L0.out.mono ?_); rintro r w1 ⟨rfl, rfl⟩) | (go_at_call 161; (with_reducible refine L1.out.mono ?_); rintro r w1 ⟨rfl, rfl⟩)); go_ret; exact ⟨rfl, rfl⟩)
      · have g3' : ((n1 : Int) == 0) = false := by rw [beq_eq_false_iff_ne]; omega
        rw [decide_eq_false g3, Bool.or_false] at hi
        by_cases g2 : n0 = p
        · have g2' : ((n0 : Int) == (p : Int)) = true := by rw [g2]; exact beq_self_eq_true _
          rw [decide_eq_true g2, Bool.and_true] at hi
          clear g2 g3
          cases second
          · rw [if_neg (by decide)] at hi
            subst hi
            (go_enter Tryz.func186, Tryz.ntmps186; go_wp2_with (first | (go_at_call 161; (with_reducible refine L0.out.mono ?_); rintro r w1 ⟨rfl, rfl⟩) | (go_at_call 161; (with_reducible refine L1.out.mono ?_); rintro r w1 ⟨rfl, rfl⟩)); go_ret; exact ⟨rfl, rfl⟩)
          · rw [if_pos rfl] at hi
            subst hi
            (go_enter Tryz.func186, Tryz.ntmps186; go_wp2_with (first | (go_at_call 161; (with_reducible refine L0.out.mono ?_); rintro r w1 ⟨rfl, rfl⟩) | (go_at_call 161; (with_reducible refine L1.out.mono ?_); rintro r w1 ⟨rfl, rfl⟩)); go_ret; exact ⟨rfl, rfl⟩)
        · have g2' : ((n0 : Int) == (p : Int)) = false := by rw [beq_eq_false_iff_ne]; omega
          rw [decide_eq_false g2, Bool.and_false, if_neg (by decide)] at hi
          subst hi
          clear g2 g3
          cases second
          · (go_enter Tryz.func186, Tryz.ntmps186; go_wp2_with (first | (go_at_call 161; (with_reducible refine L0.out.mono ?_); rintro r w1 ⟨rfl, rfl⟩) | (go_at_call 161; (with_reducible refine L1.out.mono ?_); rintro r w1 ⟨rfl, rfl⟩)); go_ret; exact ⟨rfl, rfl⟩)
          · (go_enter Tryz.func186, Tryz.ntmps186; go_wp2_with (first | (go_at_call 161; (with_reducible refine L0.out.mono ?_); rintro r w1 ⟨rfl, rfl⟩) | (go_at_call 161; (with_reducible refine L1.out.mono ?_); rintro r w1 ⟨rfl, rfl⟩)); go_ret; exact ⟨rfl, rfl⟩)
  · have g0' : ¬ (0 : Int) < n0 := by omega
    rw [decide_eq_false g0, Bool.false_and, if_neg (by decide)] at hi
    subst hi
    (go_enter Tryz.func186, Tryz.ntmps186; go_wp2_with (first | (go_at_call 161; (with_reducible refine L0.out.mono ?_); rintro r w1 ⟨rfl, rfl⟩) | (go_at_call 161; (with_reducible refine L1.out.mono ?_); rintro r w1 ⟨rfl, rfl⟩)); go_ret; exact ⟨rfl, rfl⟩)
theorem Arc.first_pos {s : Arc} {d : Bool} (h : s.first d = true) : s.t1 ≠ [] := fun e => by
  unfold Arc.first at h
  rw [e] at h
  simp at h
/-- One goes, as a ghost. -/
theorem Arc_yield {g w : World} {b : Nat} {s : Arc} {F : List SProp} (h : Holds g w (IsArc b s :: F)) (second : Bool) (hl : s.b1.length < 900000 ∧ s.b2.length < 900000) :
    Calls Tryz.prog 187 #[.pointer (some ⟨b, 0, none⟩), .bool second] w fun r w' => r = .returned (.tuple #[.string (s.yield second).2.1, .bool (s.yield second).2.2]) ∧ Holds g w' (IsArc b (s.yield second).1 :: F) := by
  obtain ⟨res, hres⟩ : ∃ r, s.yield second = r := ⟨_, rfl⟩
  rw [hres]
  unfold Arc.yield at hres
  cases hf : s.first second with
  | true =>
    have cF := hide (Arc_from h second 0 (by rw [hf]; rfl))
    rw [hf, if_pos rfl] at hres
    obtain ⟨q0, q1, q2, q3, h⟩ := h.isArc
    obtain ⟨_, _, c2, c3, c4, c5⟩ := arcc h
    obtain ⟨x, hx⟩ : ∃ x, kLast s.t1 = x := ⟨_, rfl⟩
    have hE : (!s.t1.isEmpty) = true := bnot_isEmpty.2 (Arc.first_pos hf)
    have cP := hide (List_Pop (Holds.p1 h) x hx true hE)
    rw [hx] at hres
    have hln := hide hl.1
    replace hres := hide hres
    clear hf hl hx hE h
    go_enter Tryz.func187, Tryz.ntmps187
    go_wp2_with (first
      | (go_at_call 186; (with_reducible refine cF.out.mono ?_); rintro r w1 ⟨rfl, rfl⟩)
      | (go_at_call 162; (with_reducible refine cP.out.mono ?_); rintro r w2 ⟨rfl, h2⟩; obtain ⟨_, _, _, _, c4, _⟩ := arcc (Holds.p1 h2); have h2 := hide h2)
      | (go_at_call 163; (with_reducible refine (List_Front (Holds.p3 h2.out) x hln.out).mono ?_); rintro r w3 ⟨rfl, h3⟩; have h3 := hide h3))
    go_ret2
    rw [← hres.out]
    exact ⟨rfl, Holds.toArc (q0 := q0) (q1 := q1) (q2 := q2) (q3 := q3) (s := { s with t1 := s.t1.dropLast, b1 := kFront s.b1 x }) h3.out.p3.p2.p3⟩
  | false =>
    have cF := hide (Arc_from h second 1 (by rw [hf]; rfl))
    rw [hf, if_neg (by decide)] at hres
    have h0 := hide h
    obtain ⟨q0, q1, q2, q3, h⟩ := h.isArc
    obtain ⟨_, _, c2, c3, c4, c5⟩ := arcc h
    by_cases he : s.t2 = []
    · rw [if_pos he] at hres
      have cP := hide (List_Pop (Holds.p2 h) bNil (by rw [he]; rfl) false (by rw [he]; rfl))
      rw [show s.t2.dropLast = s.t2 by rw [he]; rfl] at cP
      replace hres := hide hres
      clear hf hl he h
      go_enter Tryz.func187, Tryz.ntmps187
      go_wp2_with (first
        | (go_at_call 186; (with_reducible refine cF.out.mono ?_); rintro r w1 ⟨rfl, rfl⟩)
        | (go_at_call 162; (with_reducible refine cP.out.mono ?_); rintro r w2 ⟨rfl, h2⟩; have h2 := hide h2))
      go_ret2
      rw [← hres.out]
      exact ⟨rfl, Holds.toArc (q0 := q0) (q1 := q1) (q2 := q2) (q3 := q3) (s := s) h2.out.p2.p2⟩
    · rw [if_neg he] at hres
      obtain ⟨x, hx⟩ : ∃ x, kLast s.t2 = x := ⟨_, rfl⟩
      have hE : (!s.t2.isEmpty) = true := bnot_isEmpty.2 he
      have cP := hide (List_Pop (Holds.p2 h) x hx true hE)
      rw [hx] at hres
      have hln := hide hl.2
      have e1 : IntKind.i64.wrap (1 + 2) = 3 := by decide
      replace hres := hide hres
      clear hf hl hx hE h he
      go_enter Tryz.func187, Tryz.ntmps187
      go_wp2_with (first
        | (go_at_call 186; (with_reducible refine cF.out.mono ?_); rintro r w1 ⟨rfl, rfl⟩)
        | (go_at_call 162; (with_reducible refine cP.out.mono ?_); rintro r w2 ⟨rfl, h2⟩; obtain ⟨_, _, _, _, _, c5⟩ := arcc (Holds.p1 h2); have h2 := hide h2)
        | (go_at_call 163; (with_reducible refine (List_Front (Holds.p4 h2.out) x hln.out).mono ?_); rintro r w3 ⟨rfl, h3⟩; have h3 := hide h3))
      go_ret2
      rw [← hres.out]
      exact ⟨rfl, Holds.toArc (q0 := q0) (q1 := q1) (q2 := q2) (q3 := q3) (s := { s with t2 := s.t2.dropLast, b2 := kFront s.b2 x }) h3.out.p4.p2.p4.p4⟩
/-- Room is made, if there is none. -/
theorem Arc_room {g w : World} {b : Nat} {s : Arc} {F : List SProp} (h : Holds g w (IsArc b s :: F)) (second : Bool) (hl : s.b1.length < 900000 ∧ s.b2.length < 900000) (hl2 : s.len < 1000000) :
    Calls Tryz.prog 183 #[.pointer (some ⟨b, 0, none⟩), .bool second] w fun r w' => r = .returned (.tuple #[.string (s.room second).2.1, .bool (s.room second).2.2]) ∧ Holds g w' (IsArc b (s.room second).1 :: F) := by
  obtain ⟨n, hn⟩ : ∃ n, s.len = n := ⟨_, rfl⟩
  obtain ⟨most, hm⟩ : ∃ n, s.most = n := ⟨_, rfl⟩
  obtain ⟨res, hres⟩ : ∃ r, s.room second = r := ⟨_, rfl⟩
  rw [hres]
  unfold Arc.room at hres
  rw [hn, hm] at hres
  have cL := hide (fun m => Arc_Len (h.drewN (n := m)) n hn hl2)
  have cY := hide (fun m => Arc_yield (h.drewN (n := m)) second hl)
  have c0 : w.cell? ⟨b, 0, none⟩ = some (.int .i64 (most : Nat)) := by
    obtain ⟨_, _, _, _, hq⟩ := h.isArc
    have := (arcc hq).1
    rw [hm] at this
    exact this
  replace h := hide h
  clear hn hm hl hl2
  by_cases hlt : n < most
  · have f1 : decide ((n : Int) < most) = true := decide_eq_true (by omega)
    have f2 : decide (n < most) = true := decide_eq_true hlt
    rw [if_pos hlt] at hres
    replace hres := hide hres
    clear cY
    go_enter Tryz.func183, Tryz.ntmps183
    go_wp2
    go_quiet ((go_at_call 104; exact Calls.quiet_of (cL.out _)))
    go_wp2
    go_ret2
    rw [← hres.out]
    exact ⟨rfl, h.out.drewN⟩
  · have f1 : decide ((n : Int) < most) = false := decide_eq_false (by omega)
    have f2 : decide (n < most) = false := decide_eq_false hlt
    rw [if_neg hlt] at hres
    rw [hres] at cY
    replace hres := hide hres
    replace hlt := hide hlt
    go_enter Tryz.func183, Tryz.ntmps183
    go_wp2
    go_quiet ((go_at_call 104; exact Calls.quiet_of (cL.out _)))
    go_wp2_with (go_at_call 187; (with_reducible refine (cY.out _).mono ?_); rintro r w2 ⟨rfl, h2⟩; have h2 := hide h2)
    go_ret2
    exact ⟨rfl, h2.out⟩
end Go.Proofs.YtbbdimlpofjlfaaGreatDoor
/- arc in memory: all. -/
namespace Go.Proofs.YtbbdimlpofjlfaaGreatDoor
open Go Go.RowKit

set_option maxRecDepth 100000
set_option maxHeartbeats 2000000
theorem Arc_all02 {g w : World} {b : Nat} {s : Arc} {F : List SProp} (h : Holds g w (IsArc b s :: F)) (q : Nat) (z0 : w.cell? ⟨q, 0, none⟩ = some (.int .i64 0)) (z1 : w.cell? ⟨q, 1, none⟩ = some (.int .i64 2)) (n : Nat) (hn : s.t1.length + s.b1.length = n) (hl : n < 1000000) :
    Calls Tryz.prog 234 #[.pointer (some ⟨b, 0, none⟩), .slice (some ⟨q, 0, none⟩) 2 2] w fun r w' => r = .returned (.int .i64 (n : Nat)) ∧ w = w' := by
  obtain ⟨q0, q1, q2, q3, h⟩ := h.isArc
  obtain ⟨_, _, c2, _, c4, _⟩ := arcc h
  obtain ⟨n0, h0⟩ : ∃ n, s.t1.length = n := ⟨_, rfl⟩
  obtain ⟨n2, h2⟩ : ∃ n, s.b1.length = n := ⟨_, rfl⟩
  rw [h0, h2] at hn
  have L0 := hide (List_Len (Holds.p1 h) n0 h0)
  have L2 := hide (List_Len (Holds.p3 h) n2 h2)
  have e0 : IntKind.i64.wrap (n0 : Int) = (n0 : Int) := IntWalk.i64_in _ (by omega)
  have e1 : IntKind.i64.wrap ((n0 : Int) + (n2 : Int)) = (n : Int) := by rw [IntWalk.i64_in _ (by omega)]; omega
  clear h hn hl h0 h2
  go_enter Tryz.func234, Tryz.ntmps234
  go_wp2
  refine wp_loop_rounds 3 ?_
  rw [rounds_succ]
  go_wp2_with (go_at_call 161; (with_reducible refine L0.out.mono ?_); rintro r w1 ⟨rfl, rfl⟩)
  rw [rounds_succ]
  go_wp2_with (go_at_call 161; (with_reducible refine L2.out.mono ?_); rintro r w1 ⟨rfl, rfl⟩)
  rw [rounds_succ]
  go_wp2
  go_ret
  exact ⟨rfl, rfl⟩
theorem Arc_all4 {g w : World} {b : Nat} {s : Arc} {F : List SProp} (h : Holds g w (IsArc b s :: F)) (q : Nat) (z0 : w.cell? ⟨q, 0, none⟩ = some (.int .i64 0)) (z1 : w.cell? ⟨q, 1, none⟩ = some (.int .i64 1)) (z2 : w.cell? ⟨q, 2, none⟩ = some (.int .i64 2)) (z3 : w.cell? ⟨q, 3, none⟩ = some (.int .i64 3)) (n : Nat) (hn : s.size = n) (hl : n < 1000000) :
    Calls Tryz.prog 234 #[.pointer (some ⟨b, 0, none⟩), .slice (some ⟨q, 0, none⟩) 4 4] w fun r w' => r = .returned (.int .i64 (n : Nat)) ∧ w = w' := by
  obtain ⟨q0, q1, q2, q3, h⟩ := h.isArc
  obtain ⟨_, _, c2, c3, c4, c5⟩ := arcc h
  obtain ⟨n0, h0⟩ : ∃ n, s.t1.length = n := ⟨_, rfl⟩
  obtain ⟨n1, h1⟩ : ∃ n, s.t2.length = n := ⟨_, rfl⟩
  obtain ⟨n2, h2⟩ : ∃ n, s.b1.length = n := ⟨_, rfl⟩
  obtain ⟨n3, h3⟩ : ∃ n, s.b2.length = n := ⟨_, rfl⟩
  unfold Arc.size at hn
  rw [h0, h1, h2, h3] at hn
  have L0 := hide (List_Len (Holds.p1 h) n0 h0)
  have L1 := hide (List_Len (Holds.p2 h) n1 h1)
  have L2 := hide (List_Len (Holds.p3 h) n2 h2)
  have L3 := hide (List_Len (Holds.p4 h) n3 h3)
  obtain ⟨m1, hm1⟩ : ∃ x, n0 + n1 = x := ⟨_, rfl⟩
  obtain ⟨m2, hm2⟩ : ∃ x, m1 + n2 = x := ⟨_, rfl⟩
  have e0 : IntKind.i64.wrap (n0 : Int) = (n0 : Int) := IntWalk.i64_in _ (by omega)
  have e1 : IntKind.i64.wrap ((n0 : Int) + (n1 : Int)) = (m1 : Int) := by rw [IntWalk.i64_in _ (by omega)]; omega
  have e2 : IntKind.i64.wrap ((m1 : Int) + (n2 : Int)) = (m2 : Int) := by rw [IntWalk.i64_in _ (by omega)]; omega
  have e3 : IntKind.i64.wrap ((m2 : Int) + (n3 : Int)) = (n : Int) := by rw [IntWalk.i64_in _ (by omega)]; omega
  clear h hn hl h0 h1 h2 h3 hm1 hm2
  go_enter Tryz.func234, Tryz.ntmps234
  go_wp2
  refine wp_loop_rounds 5 ?_
  rw [rounds_succ]
  go_wp2_with (go_at_call 161; (with_reducible refine L0.out.mono ?_); rintro r w1 ⟨rfl, rfl⟩)
  rw [rounds_succ]
  go_wp2_with (go_at_call 161; (with_reducible refine L1.out.mono ?_); rintro r w1 ⟨rfl, rfl⟩)
  rw [rounds_succ]
  go_wp2_with (go_at_call 161; (with_reducible refine L2.out.mono ?_); rintro r w1 ⟨rfl, rfl⟩)
  rw [rounds_succ]
  go_wp2_with (go_at_call 161; (with_reducible refine L3.out.mono ?_); rintro r w1 ⟨rfl, rfl⟩)
  rw [rounds_succ]
  go_wp2
  go_ret
  exact ⟨rfl, rfl⟩
end Go.Proofs.YtbbdimlpofjlfaaGreatDoor
