/- cachewiselaw13's awake. -/
import Derived.Test.YtkkkjjoknabopaaDoorChoose
namespace Go.Proofs.YtkkkjjoknabopaaDoor
open Go Go.RowKit

theorem row7_cells {g w : World} {b : Nat} {t : TypeId} {fz : Nat × Nat} {F : List SProp} {x0 x1 x2 x3 x4 x5 x6 : Int} (h : Holds g w (pts b (.cells (row7 x0 x1 x2 x3 x4 x5 x6) t fz) :: F)) :
    w.cell? ⟨b, 0, none⟩ = some (.int .i64 x0) ∧ w.cell? ⟨b, 1, none⟩ = some (.int .i64 x1) ∧ w.cell? ⟨b, 2, none⟩ = some (.int .i64 x2) ∧ w.cell? ⟨b, 3, none⟩ = some (.int .i64 x3) ∧
      w.cell? ⟨b, 4, none⟩ = some (.int .i64 x4) ∧ w.cell? ⟨b, 5, none⟩ = some (.int .i64 x5) ∧ w.cell? ⟨b, 6, none⟩ = some (.int .i64 x6) :=
  ⟨h.cell rfl, h.cell rfl, h.cell rfl, h.cell rfl, h.cell rfl, h.cell rfl, h.cell rfl⟩
theorem fair_of {x0 x1 x2 x3 x4 x5 x6 : Int} (h0 : 0 ≤ x0 ∧ x0 ≤ 9223372036854775807) (h1 : 0 ≤ x1 ∧ x1 ≤ 9223372036854775807) (h2 : 0 ≤ x2 ∧ x2 ≤ 9223372036854775807) (h3 : 0 ≤ x3 ∧ x3 ≤ 9223372036854775807)
    (h4 : 0 ≤ x4 ∧ x4 ≤ 9223372036854775807) (h5 : 0 ≤ x5 ∧ x5 ≤ 9223372036854775807) (h6 : 0 ≤ x6 ∧ x6 ≤ 9223372036854775807) : fair [x0, x1, x2, x3, x4, x5, x6] := by
  intro i
  match i with
  | 0 => exact h0
  | 1 => exact h1
  | 2 => exact h2
  | 3 => exact h3
  | 4 => exact h4
  | 5 => exact h5
  | 6 => exact h6
  | _ + 7 => exact ⟨Int.le_refl _, (by decide : (0 : Int) ≤ 9223372036854775807)⟩
theorem fairA : fair [3, 1, 1, 5, 5, 5, 5] := fair_of (by decide) (by decide) (by decide) (by decide) (by decide) (by decide) (by decide)
section
variable {b : Nat} {g w : World} {L : List SProp}
theorem askA (h : Holds g w (IsSel b 1 2 0 :: L)) : Calls Tryd.prog 13 #[.pointer (some ⟨b, 0, none⟩), .agg (row7 3 1 1 5 5 5 5), .int .i64 0, .bool false, .bool false] w
    fun r w' => r = .returned (.tuple #[.int .i64 0, .bool false]) ∧ Holds g w' (IsSel b 1 2 1 :: L) := Ask_any b 1 2 0 3 1 1 5 5 5 5 0 false false g w L fairA (by decide) h
theorem askB' (h : Holds g w (IsSel b 1 2 1 :: L)) : Calls Tryd.prog 13 #[.pointer (some ⟨b, 0, none⟩), .agg (row7 3 1 1 5 5 5 5), .int .i64 0, .bool false, .bool false] w
    fun r w' => r = .returned (.tuple #[.int .i64 1, .bool true]) ∧ Holds g w' (IsSel b 1 2 0 :: L) := Ask_any b 1 2 1 3 1 1 5 5 5 5 0 false false g w L fairA (by decide) h
theorem askC (h : Holds g w (IsSel b 1 2 0 :: L)) : Calls Tryd.prog 13 #[.pointer (some ⟨b, 0, none⟩), .agg (row7 3 1 1 5 5 5 5), .int .i64 0, .bool true, .bool false] w
    fun r w' => r = .returned (.tuple #[.int .i64 0, .bool false]) ∧ Holds g w' (IsSel b 1 2 0 :: L) := Ask_any b 1 2 0 3 1 1 5 5 5 5 0 true false g w L fairA (by decide) h
theorem bestA : Calls Tryd.prog 16 #[.agg (row7 3 1 1 5 5 5 5)] w fun r w' => r = .returned (.int .i64 1) ∧ Keep w w' := Best_any 3 1 1 5 5 5 5 w
theorem beatA : Calls Tryd.prog 18 #[.agg (row7 3 1 1 5 5 5 5), .int .i64 0, .int .i64 1] w fun r w' => r = .returned (.bool true) ∧ Keep w w' := Beaten_any 3 1 1 5 5 5 5 0 1 w fairA
theorem beatB : Calls Tryd.prog 18 #[.agg (row7 3 1 1 5 5 5 5), .int .i64 0, .int .i64 2] w fun r w' => r = .returned (.bool false) ∧ Keep w w' := Beaten_any 3 1 1 5 5 5 5 0 2 w fairA
theorem beatC : Calls Tryd.prog 18 #[.agg (row7 3 1 1 5 5 5 5), .int .i64 7, .int .i64 0] w fun r w' => r = .returned (.bool false) ∧ Keep w w' := Beaten_any 3 1 1 5 5 5 5 7 0 w fairA
end
set_option maxRecDepth 100000 in
set_option maxHeartbeats 4000000 in
theorem awake13 (g w : World) (L : List SProp) (hE : Env g) (h : Holds g w L) : Calls Tryd.prog 8 #[] w fun r w' => r = .returned (.bool true) ∧ Holds g w' L := by
  have hE := hide hE
  have h0 := hide h
  clear h
  go_enter Tryd.func8, Tryd.ntmps8
  go_wp2_with (first
    | (go_at_call 9; (with_reducible refine (Sel_New 1 2 _ g L h0.out (by decide)).mono ?_); rintro r w1 ⟨b, rfl, h1⟩; have h1 := hide h1)
    | (go_at_call 9; (with_reducible refine (Sel_New_bad (-1) 1 _ g _ h1.out (by decide)).mono ?_); rintro r w2 ⟨ve, rfl, h2⟩; have h2 := hide h2; obtain ⟨bw, rfl⟩ : ∃ bw, w2.heap.size = bw := ⟨_, rfl⟩)
    | (go_at_call 13; (with_reducible refine (askA h2.out.alloc.p2).mono ?_); rintro r w3 ⟨rfl, h3⟩
       obtain ⟨r0, r1, r2, r3, r4, r5, r6⟩ := row7_cells h3.p1
       have h3 := hide h3)
    | (go_at_call 15; (with_reducible refine (Counted_any b 1 2 1 g _ _ h3.out).mono ?_); rintro r w4 ⟨rfl, h4⟩
       obtain ⟨s0, s1, s2, s3, s4, s5, s6⟩ := row7_cells h4.p1
       have h4 := hide h4)
    | (go_at_call 13; (with_reducible refine (askB' h4.out).mono ?_); rintro r w5 ⟨rfl, h5⟩
       obtain ⟨q0, q1, q2, q3, q4, q5, q6⟩ := row7_cells h5.p1
       have h5 := hide h5)
    | (go_at_call 13; (with_reducible refine (askC h5.out).mono ?_); rintro r w6 ⟨rfl, h6⟩
       have h6 := hide h6)
    | (go_at_call 11; (with_reducible refine (Wraps_hit _ _ 1 _ _ (hE.out.of h6.out) (by decide) h6.out.p2.errAt).mono ?_); rintro r w7 ⟨rfl, h7⟩
       have h7 := h6.out.keep h7
       obtain ⟨t0, t1, t2, t3, t4, t5, t6⟩ := row7_cells h7.p1
       have h7 := hide h7)
    | (go_at_call 15; (with_reducible refine (Counted_any b 1 2 0 g _ _ h7.out).mono ?_); rintro r w8 ⟨rfl, h8⟩
       obtain ⟨u0, u1, u2, u3, u4, u5, u6⟩ := row7_cells h8.p1
       have h8 := hide h8)
    | (go_at_call 16; (with_reducible refine bestA.mono ?_); rintro r w9 ⟨rfl, h9⟩
       have h9 := h8.out.keep h9
       obtain ⟨v0, v1, v2, v3, v4, v5, v6⟩ := row7_cells h9.p1
       have h9 := hide h9)
    | (go_at_call 18; (with_reducible refine beatA.mono ?_); rintro r w10 ⟨rfl, h10⟩
       have h10 := h9.out.keep h10
       obtain ⟨x0, x1, x2, x3, x4, x5, x6⟩ := row7_cells h10.p1
       have h10 := hide h10)
    | (go_at_call 18; (with_reducible refine beatB.mono ?_); rintro r w11 ⟨rfl, h11⟩
       have h11 := h10.out.keep h11
       obtain ⟨y0, y1, y2, y3, y4, y5, y6⟩ := row7_cells h11.p1
       have h11 := hide h11)
    | (go_at_call 18; (with_reducible refine beatC.mono ?_); rintro r w12 ⟨rfl, h12⟩
       have h12 := h11.out.keep h12
       have h12 := hide h12))
  go_ret
  exact ⟨rfl, h12.out.drop.drop.drop⟩
end Go.Proofs.YtkkkjjoknabopaaDoor
