/- The document's: which items, which set-ups may be. -/
import Derived.Test.YtggeppmiifkikaaDoorTellMath
import Derived.Test.YtggeppmiifkikaaDoorTellBytes
namespace Go.Proofs.YtggeppmiifkikaaDoor
open Go Go.RowKit

set_option maxRecDepth 100000 in
theorem Ref_item (x : It) (w : World) :
    Calls Tryd.prog 48 #[.agg #[.string x.key, .string x.val, .int .i64 x.dl]] w fun r w' => r = .returned (.int .i64 (itC x)) ∧ Keep w w' := by
  obtain ⟨k, v, d⟩ := x
  have hK := hide ((Keep.refl w).alloc (o := .cells #[.string k, .string v, .int .i64 d] 76))
  have hc : ∃ n, itC ⟨k, v, d⟩ = n ∧ ((n = 3 ∧ k.size = 0) ∨ (¬ k.size = 0 ∧ ((n = 4 ∧ 64 < k.size) ∨ (¬ 64 < k.size ∧ ((n = 4 ∧ 256 < v.size) ∨ (¬ 256 < v.size ∧ ((n = 1 ∧ d < 0) ∨ (¬ d < 0 ∧ n = 0)))))))) := by
    refine ⟨_, rfl, ?_⟩
    unfold itC
    dsimp only
    split
    · omega
    · split
      · omega
      · split <;> omega
  obtain ⟨n, hn, hc⟩ := hc
  rw [hn]
  clear hn
  dsimp only
  obtain ⟨a, ha⟩ : ∃ a, k.size = a := ⟨_, rfl⟩
  obtain ⟨b, hb⟩ : ∃ b, v.size = b := ⟨_, rfl⟩
  rw [ha, hb] at hc
  rcases hc with ⟨rfl, h⟩ | ⟨h0, ⟨rfl, h⟩ | ⟨h1, ⟨rfl, h⟩ | ⟨h2, ⟨rfl, h⟩ | ⟨h3, rfl⟩⟩⟩⟩
  all_goals
    try have h' : ((a : Int) == 0) = true := by (rw [beq_iff_eq]; omega)
    try have h0' : ((a : Int) == 0) = false := by (rw [beq_eq_false_iff_ne]; omega)
    try have h1' : ¬ (64 : Int) < a := by omega
    try have h2' : ¬ (256 : Int) < b := by omega
    try have g1 : (64 : Int) < a := by omega
    try have g2 : (256 : Int) < b := by omega
    try clear h0
    try clear h1
    try clear h2
  · obtain rfl := h
    clear h'
    go_enter Tryd.func48, Tryd.ntmps48
    go_wp2
    go_ret
    exact ⟨rfl, hK.out⟩
  all_goals
    go_enter Tryd.func48, Tryd.ntmps48
    go_wp2
    go_ret
    exact ⟨rfl, hK.out⟩
set_option maxRecDepth 100000 in
theorem Ref_Over (x : It) (now : Int) (d : Bool) (hd : overI now x = d) (w : World) :
    Calls Tryd.prog 49 #[.agg #[.string x.key, .string x.val, .int .i64 x.dl], .int .i64 now] w fun r w' => r = .returned (.bool d) ∧ Keep w w' := by
  obtain ⟨k, v, e⟩ := x
  subst hd
  have hK := hide ((Keep.refl w).alloc (o := .cells #[.string k, .string v, .int .i64 e] 76))
  unfold overI
  dsimp only
  by_cases h0 : 0 < e
  · rw [show decide (0 < e) = true from decide_eq_true h0, Bool.true_and]
    by_cases h1 : e ≤ now
    · rw [show decide (e ≤ now) = true from decide_eq_true h1]
      go_enter Tryd.func49, Tryd.ntmps49
      go_wp2
      go_ret
      exact ⟨rfl, hK.out⟩
    · rw [show decide (e ≤ now) = false from decide_eq_false h1]
      go_enter Tryd.func49, Tryd.ntmps49
      go_wp2
      go_ret
      exact ⟨by first | rfl | simp | (simp; omega), hK.out⟩
  · rw [show decide (0 < e) = false from decide_eq_false h0, Bool.false_and]
    go_enter Tryd.func49, Tryd.ntmps49
    go_wp2
    go_ret
    exact ⟨rfl, hK.out⟩
theorem tenCells {g w : World} {b : Nat} {t : TypeId} {F : List SProp} {v0 v1 v2 v3 v4 v5 v6 v7 v8 v9 : Value} (h : Holds g w (pts b (.cells #[v0, v1, v2, v3, v4, v5, v6, v7, v8, v9] t) :: F)) :
    w.cell? ⟨b, 0, none⟩ = some v0 ∧ w.cell? ⟨b, 1, none⟩ = some v1 ∧ w.cell? ⟨b, 2, none⟩ = some v2 ∧ w.cell? ⟨b, 3, none⟩ = some v3 ∧ w.cell? ⟨b, 4, none⟩ = some v4 ∧ w.cell? ⟨b, 5, none⟩ = some v5 ∧ w.cell? ⟨b, 6, none⟩ = some v6 ∧ w.cell? ⟨b, 7, none⟩ = some v7 ∧ w.cell? ⟨b, 8, none⟩ = some v8 ∧ w.cell? ⟨b, 9, none⟩ = some v9 :=
  ⟨h.cell rfl, h.cell rfl, h.cell rfl, h.cell rfl, h.cell rfl, h.cell rfl, h.cell rfl, h.cell rfl, h.cell rfl, h.cell rfl⟩
set_option maxRecDepth 100000 in
theorem Ref_Fits_0l (s0 s1 s2 s3 s4 s5 s6 s7 s8 : Int) (u : Value) (w : World) (p0 : decide (s6 < -1) = true) :
    Calls Tryd.prog 19 #[.agg #[.int .i64 s0, .int .i64 s1, .int .i64 s2, .int .i64 s3, .int .i64 s4, .int .i64 s5, .int .i64 s6, .int .i64 s7, .int .i64 s8, u]] w fun r w' => r = .returned (.int .i64 7) ∧ Keep w w' := by
  have H0 := (Holds.start w).alloc (o := .cells #[.int .i64 s0, .int .i64 s1, .int .i64 s2, .int .i64 s3, .int .i64 s4, .int .i64 s5, .int .i64 s6, .int .i64 s7, .int .i64 s8, u] 37)
  obtain ⟨a0, a1, a2, a3, a4, a5, a6, a7, a8, a9⟩ := tenCells H0
  have hK := hide H0.drop.toKeep
  clear H0 a7 a8 a9
  go_enter Tryd.func19, Tryd.ntmps19
  go_wp2
  go_ret
  exact ⟨rfl, hK.out⟩
set_option maxRecDepth 100000 in
theorem Ref_Fits_0h (s0 s1 s2 s3 s4 s5 s6 s7 s8 : Int) (u : Value) (w : World) (p0 : decide (s6 < -1) = false) (q0 : decide (6 < s6) = true) :
    Calls Tryd.prog 19 #[.agg #[.int .i64 s0, .int .i64 s1, .int .i64 s2, .int .i64 s3, .int .i64 s4, .int .i64 s5, .int .i64 s6, .int .i64 s7, .int .i64 s8, u]] w fun r w' => r = .returned (.int .i64 7) ∧ Keep w w' := by
  have H0 := (Holds.start w).alloc (o := .cells #[.int .i64 s0, .int .i64 s1, .int .i64 s2, .int .i64 s3, .int .i64 s4, .int .i64 s5, .int .i64 s6, .int .i64 s7, .int .i64 s8, u] 37)
  obtain ⟨a0, a1, a2, a3, a4, a5, a6, a7, a8, a9⟩ := tenCells H0
  have hK := hide H0.drop.toKeep
  clear H0 a7 a8 a9
  go_enter Tryd.func19, Tryd.ntmps19
  go_wp2
  go_ret
  exact ⟨rfl, hK.out⟩
set_option maxRecDepth 100000 in
theorem Ref_Fits_1l (s0 s1 s2 s3 s4 s5 s6 s7 s8 : Int) (u : Value) (w : World) (p0 : decide (s6 < -1) = false) (q0 : decide (6 < s6) = false) (p1 : decide (s0 < 0) = true) :
    Calls Tryd.prog 19 #[.agg #[.int .i64 s0, .int .i64 s1, .int .i64 s2, .int .i64 s3, .int .i64 s4, .int .i64 s5, .int .i64 s6, .int .i64 s7, .int .i64 s8, u]] w fun r w' => r = .returned (.int .i64 1) ∧ Keep w w' := by
  have H0 := (Holds.start w).alloc (o := .cells #[.int .i64 s0, .int .i64 s1, .int .i64 s2, .int .i64 s3, .int .i64 s4, .int .i64 s5, .int .i64 s6, .int .i64 s7, .int .i64 s8, u] 37)
  obtain ⟨a0, a1, a2, a3, a4, a5, a6, a7, a8, a9⟩ := tenCells H0
  have hK := hide H0.drop.toKeep
  clear H0 a7 a8 a9
  go_enter Tryd.func19, Tryd.ntmps19
  go_wp2
  go_ret
  exact ⟨rfl, hK.out⟩
set_option maxRecDepth 100000 in
theorem Ref_Fits_1h (s0 s1 s2 s3 s4 s5 s6 s7 s8 : Int) (u : Value) (w : World) (p0 : decide (s6 < -1) = false) (q0 : decide (6 < s6) = false) (p1 : decide (s0 < 0) = false) (q1 : decide (16777216 < s0) = true) :
    Calls Tryd.prog 19 #[.agg #[.int .i64 s0, .int .i64 s1, .int .i64 s2, .int .i64 s3, .int .i64 s4, .int .i64 s5, .int .i64 s6, .int .i64 s7, .int .i64 s8, u]] w fun r w' => r = .returned (.int .i64 1) ∧ Keep w w' := by
  have H0 := (Holds.start w).alloc (o := .cells #[.int .i64 s0, .int .i64 s1, .int .i64 s2, .int .i64 s3, .int .i64 s4, .int .i64 s5, .int .i64 s6, .int .i64 s7, .int .i64 s8, u] 37)
  obtain ⟨a0, a1, a2, a3, a4, a5, a6, a7, a8, a9⟩ := tenCells H0
  have hK := hide H0.drop.toKeep
  clear H0 a7 a8 a9
  go_enter Tryd.func19, Tryd.ntmps19
  go_wp2
  go_ret
  exact ⟨rfl, hK.out⟩
set_option maxRecDepth 100000 in
theorem Ref_Fits_2l (s0 s1 s2 s3 s4 s5 s6 s7 s8 : Int) (u : Value) (w : World) (p0 : decide (s6 < -1) = false) (q0 : decide (6 < s6) = false) (p1 : decide (s0 < 0) = false) (q1 : decide (16777216 < s0) = false) (p2 : decide (s1 < 0) = true) :
    Calls Tryd.prog 19 #[.agg #[.int .i64 s0, .int .i64 s1, .int .i64 s2, .int .i64 s3, .int .i64 s4, .int .i64 s5, .int .i64 s6, .int .i64 s7, .int .i64 s8, u]] w fun r w' => r = .returned (.int .i64 1) ∧ Keep w w' := by
  have H0 := (Holds.start w).alloc (o := .cells #[.int .i64 s0, .int .i64 s1, .int .i64 s2, .int .i64 s3, .int .i64 s4, .int .i64 s5, .int .i64 s6, .int .i64 s7, .int .i64 s8, u] 37)
  obtain ⟨a0, a1, a2, a3, a4, a5, a6, a7, a8, a9⟩ := tenCells H0
  have hK := hide H0.drop.toKeep
  clear H0 a7 a8 a9
  go_enter Tryd.func19, Tryd.ntmps19
  go_wp2
  go_ret
  exact ⟨rfl, hK.out⟩
set_option maxRecDepth 100000 in
theorem Ref_Fits_2h (s0 s1 s2 s3 s4 s5 s6 s7 s8 : Int) (u : Value) (w : World) (p0 : decide (s6 < -1) = false) (q0 : decide (6 < s6) = false) (p1 : decide (s0 < 0) = false) (q1 : decide (16777216 < s0) = false) (p2 : decide (s1 < 0) = false) (q2 : decide (16 < s1) = true) :
    Calls Tryd.prog 19 #[.agg #[.int .i64 s0, .int .i64 s1, .int .i64 s2, .int .i64 s3, .int .i64 s4, .int .i64 s5, .int .i64 s6, .int .i64 s7, .int .i64 s8, u]] w fun r w' => r = .returned (.int .i64 1) ∧ Keep w w' := by
  have H0 := (Holds.start w).alloc (o := .cells #[.int .i64 s0, .int .i64 s1, .int .i64 s2, .int .i64 s3, .int .i64 s4, .int .i64 s5, .int .i64 s6, .int .i64 s7, .int .i64 s8, u] 37)
  obtain ⟨a0, a1, a2, a3, a4, a5, a6, a7, a8, a9⟩ := tenCells H0
  have hK := hide H0.drop.toKeep
  clear H0 a7 a8 a9
  go_enter Tryd.func19, Tryd.ntmps19
  go_wp2
  go_ret
  exact ⟨rfl, hK.out⟩
set_option maxRecDepth 100000 in
theorem Ref_Fits_3l (s0 s1 s2 s3 s4 s5 s6 s7 s8 : Int) (u : Value) (w : World) (p0 : decide (s6 < -1) = false) (q0 : decide (6 < s6) = false) (p1 : decide (s0 < 0) = false) (q1 : decide (16777216 < s0) = false) (p2 : decide (s1 < 0) = false) (q2 : decide (16 < s1) = false) (p3 : decide (s2 < 1) = true) :
    Calls Tryd.prog 19 #[.agg #[.int .i64 s0, .int .i64 s1, .int .i64 s2, .int .i64 s3, .int .i64 s4, .int .i64 s5, .int .i64 s6, .int .i64 s7, .int .i64 s8, u]] w fun r w' => r = .returned (.int .i64 1) ∧ Keep w w' := by
  have H0 := (Holds.start w).alloc (o := .cells #[.int .i64 s0, .int .i64 s1, .int .i64 s2, .int .i64 s3, .int .i64 s4, .int .i64 s5, .int .i64 s6, .int .i64 s7, .int .i64 s8, u] 37)
  obtain ⟨a0, a1, a2, a3, a4, a5, a6, a7, a8, a9⟩ := tenCells H0
  have hK := hide H0.drop.toKeep
  clear H0 a7 a8 a9
  go_enter Tryd.func19, Tryd.ntmps19
  go_wp2
  go_ret
  exact ⟨rfl, hK.out⟩
set_option maxRecDepth 100000 in
theorem Ref_Fits_3h (s0 s1 s2 s3 s4 s5 s6 s7 s8 : Int) (u : Value) (w : World) (p0 : decide (s6 < -1) = false) (q0 : decide (6 < s6) = false) (p1 : decide (s0 < 0) = false) (q1 : decide (16777216 < s0) = false) (p2 : decide (s1 < 0) = false) (q2 : decide (16 < s1) = false) (p3 : decide (s2 < 1) = false) (q3 : decide (1048576 < s2) = true) :
    Calls Tryd.prog 19 #[.agg #[.int .i64 s0, .int .i64 s1, .int .i64 s2, .int .i64 s3, .int .i64 s4, .int .i64 s5, .int .i64 s6, .int .i64 s7, .int .i64 s8, u]] w fun r w' => r = .returned (.int .i64 1) ∧ Keep w w' := by
  have H0 := (Holds.start w).alloc (o := .cells #[.int .i64 s0, .int .i64 s1, .int .i64 s2, .int .i64 s3, .int .i64 s4, .int .i64 s5, .int .i64 s6, .int .i64 s7, .int .i64 s8, u] 37)
  obtain ⟨a0, a1, a2, a3, a4, a5, a6, a7, a8, a9⟩ := tenCells H0
  have hK := hide H0.drop.toKeep
  clear H0 a7 a8 a9
  go_enter Tryd.func19, Tryd.ntmps19
  go_wp2
  go_ret
  exact ⟨rfl, hK.out⟩
set_option maxRecDepth 100000 in
theorem Ref_Fits_4l (s0 s1 s2 s3 s4 s5 s6 s7 s8 : Int) (u : Value) (w : World) (p0 : decide (s6 < -1) = false) (q0 : decide (6 < s6) = false) (p1 : decide (s0 < 0) = false) (q1 : decide (16777216 < s0) = false) (p2 : decide (s1 < 0) = false) (q2 : decide (16 < s1) = false) (p3 : decide (s2 < 1) = false) (q3 : decide (1048576 < s2) = false) (p4 : decide (s3 < 0) = true) :
    Calls Tryd.prog 19 #[.agg #[.int .i64 s0, .int .i64 s1, .int .i64 s2, .int .i64 s3, .int .i64 s4, .int .i64 s5, .int .i64 s6, .int .i64 s7, .int .i64 s8, u]] w fun r w' => r = .returned (.int .i64 1) ∧ Keep w w' := by
  have H0 := (Holds.start w).alloc (o := .cells #[.int .i64 s0, .int .i64 s1, .int .i64 s2, .int .i64 s3, .int .i64 s4, .int .i64 s5, .int .i64 s6, .int .i64 s7, .int .i64 s8, u] 37)
  obtain ⟨a0, a1, a2, a3, a4, a5, a6, a7, a8, a9⟩ := tenCells H0
  have hK := hide H0.drop.toKeep
  clear H0 a7 a8 a9
  go_enter Tryd.func19, Tryd.ntmps19
  go_wp2
  go_ret
  exact ⟨rfl, hK.out⟩
set_option maxRecDepth 100000 in
theorem Ref_Fits_4h (s0 s1 s2 s3 s4 s5 s6 s7 s8 : Int) (u : Value) (w : World) (p0 : decide (s6 < -1) = false) (q0 : decide (6 < s6) = false) (p1 : decide (s0 < 0) = false) (q1 : decide (16777216 < s0) = false) (p2 : decide (s1 < 0) = false) (q2 : decide (16 < s1) = false) (p3 : decide (s2 < 1) = false) (q3 : decide (1048576 < s2) = false) (p4 : decide (s3 < 0) = false) (q4 : decide (1073741824 < s3) = true) :
    Calls Tryd.prog 19 #[.agg #[.int .i64 s0, .int .i64 s1, .int .i64 s2, .int .i64 s3, .int .i64 s4, .int .i64 s5, .int .i64 s6, .int .i64 s7, .int .i64 s8, u]] w fun r w' => r = .returned (.int .i64 1) ∧ Keep w w' := by
  have H0 := (Holds.start w).alloc (o := .cells #[.int .i64 s0, .int .i64 s1, .int .i64 s2, .int .i64 s3, .int .i64 s4, .int .i64 s5, .int .i64 s6, .int .i64 s7, .int .i64 s8, u] 37)
  obtain ⟨a0, a1, a2, a3, a4, a5, a6, a7, a8, a9⟩ := tenCells H0
  have hK := hide H0.drop.toKeep
  clear H0 a7 a8 a9
  go_enter Tryd.func19, Tryd.ntmps19
  go_wp2
  go_ret
  exact ⟨rfl, hK.out⟩
set_option maxRecDepth 100000 in
theorem Ref_Fits_5l (s0 s1 s2 s3 s4 s5 s6 s7 s8 : Int) (u : Value) (w : World) (p0 : decide (s6 < -1) = false) (q0 : decide (6 < s6) = false) (p1 : decide (s0 < 0) = false) (q1 : decide (16777216 < s0) = false) (p2 : decide (s1 < 0) = false) (q2 : decide (16 < s1) = false) (p3 : decide (s2 < 1) = false) (q3 : decide (1048576 < s2) = false) (p4 : decide (s3 < 0) = false) (q4 : decide (1073741824 < s3) = false) (p5 : decide (s4 < 1) = true) :
    Calls Tryd.prog 19 #[.agg #[.int .i64 s0, .int .i64 s1, .int .i64 s2, .int .i64 s3, .int .i64 s4, .int .i64 s5, .int .i64 s6, .int .i64 s7, .int .i64 s8, u]] w fun r w' => r = .returned (.int .i64 1) ∧ Keep w w' := by
  have H0 := (Holds.start w).alloc (o := .cells #[.int .i64 s0, .int .i64 s1, .int .i64 s2, .int .i64 s3, .int .i64 s4, .int .i64 s5, .int .i64 s6, .int .i64 s7, .int .i64 s8, u] 37)
  obtain ⟨a0, a1, a2, a3, a4, a5, a6, a7, a8, a9⟩ := tenCells H0
  have hK := hide H0.drop.toKeep
  clear H0 a7 a8 a9
  go_enter Tryd.func19, Tryd.ntmps19
  go_wp2
  go_ret
  exact ⟨rfl, hK.out⟩
set_option maxRecDepth 100000 in
theorem Ref_Fits_5h (s0 s1 s2 s3 s4 s5 s6 s7 s8 : Int) (u : Value) (w : World) (p0 : decide (s6 < -1) = false) (q0 : decide (6 < s6) = false) (p1 : decide (s0 < 0) = false) (q1 : decide (16777216 < s0) = false) (p2 : decide (s1 < 0) = false) (q2 : decide (16 < s1) = false) (p3 : decide (s2 < 1) = false) (q3 : decide (1048576 < s2) = false) (p4 : decide (s3 < 0) = false) (q4 : decide (1073741824 < s3) = false) (p5 : decide (s4 < 1) = false) (q5 : decide (64 < s4) = true) :
    Calls Tryd.prog 19 #[.agg #[.int .i64 s0, .int .i64 s1, .int .i64 s2, .int .i64 s3, .int .i64 s4, .int .i64 s5, .int .i64 s6, .int .i64 s7, .int .i64 s8, u]] w fun r w' => r = .returned (.int .i64 1) ∧ Keep w w' := by
  have H0 := (Holds.start w).alloc (o := .cells #[.int .i64 s0, .int .i64 s1, .int .i64 s2, .int .i64 s3, .int .i64 s4, .int .i64 s5, .int .i64 s6, .int .i64 s7, .int .i64 s8, u] 37)
  obtain ⟨a0, a1, a2, a3, a4, a5, a6, a7, a8, a9⟩ := tenCells H0
  have hK := hide H0.drop.toKeep
  clear H0 a7 a8 a9
  go_enter Tryd.func19, Tryd.ntmps19
  go_wp2
  go_ret
  exact ⟨rfl, hK.out⟩
set_option maxRecDepth 100000 in
theorem Ref_Fits_6l (s0 s1 s2 s3 s4 s5 s6 s7 s8 : Int) (u : Value) (w : World) (p0 : decide (s6 < -1) = false) (q0 : decide (6 < s6) = false) (p1 : decide (s0 < 0) = false) (q1 : decide (16777216 < s0) = false) (p2 : decide (s1 < 0) = false) (q2 : decide (16 < s1) = false) (p3 : decide (s2 < 1) = false) (q3 : decide (1048576 < s2) = false) (p4 : decide (s3 < 0) = false) (q4 : decide (1073741824 < s3) = false) (p5 : decide (s4 < 1) = false) (q5 : decide (64 < s4) = false) (p6 : decide (s5 < 1) = true) :
    Calls Tryd.prog 19 #[.agg #[.int .i64 s0, .int .i64 s1, .int .i64 s2, .int .i64 s3, .int .i64 s4, .int .i64 s5, .int .i64 s6, .int .i64 s7, .int .i64 s8, u]] w fun r w' => r = .returned (.int .i64 1) ∧ Keep w w' := by
  have H0 := (Holds.start w).alloc (o := .cells #[.int .i64 s0, .int .i64 s1, .int .i64 s2, .int .i64 s3, .int .i64 s4, .int .i64 s5, .int .i64 s6, .int .i64 s7, .int .i64 s8, u] 37)
  obtain ⟨a0, a1, a2, a3, a4, a5, a6, a7, a8, a9⟩ := tenCells H0
  have hK := hide H0.drop.toKeep
  clear H0 a7 a8 a9
  go_enter Tryd.func19, Tryd.ntmps19
  go_wp2
  go_ret
  exact ⟨rfl, hK.out⟩
set_option maxRecDepth 100000 in
theorem Ref_Fits_6h (s0 s1 s2 s3 s4 s5 s6 s7 s8 : Int) (u : Value) (w : World) (p0 : decide (s6 < -1) = false) (q0 : decide (6 < s6) = false) (p1 : decide (s0 < 0) = false) (q1 : decide (16777216 < s0) = false) (p2 : decide (s1 < 0) = false) (q2 : decide (16 < s1) = false) (p3 : decide (s2 < 1) = false) (q3 : decide (1048576 < s2) = false) (p4 : decide (s3 < 0) = false) (q4 : decide (1073741824 < s3) = false) (p5 : decide (s4 < 1) = false) (q5 : decide (64 < s4) = false) (p6 : decide (s5 < 1) = false) (q6 : decide (64 < s5) = true) :
    Calls Tryd.prog 19 #[.agg #[.int .i64 s0, .int .i64 s1, .int .i64 s2, .int .i64 s3, .int .i64 s4, .int .i64 s5, .int .i64 s6, .int .i64 s7, .int .i64 s8, u]] w fun r w' => r = .returned (.int .i64 1) ∧ Keep w w' := by
  have H0 := (Holds.start w).alloc (o := .cells #[.int .i64 s0, .int .i64 s1, .int .i64 s2, .int .i64 s3, .int .i64 s4, .int .i64 s5, .int .i64 s6, .int .i64 s7, .int .i64 s8, u] 37)
  obtain ⟨a0, a1, a2, a3, a4, a5, a6, a7, a8, a9⟩ := tenCells H0
  have hK := hide H0.drop.toKeep
  clear H0 a7 a8 a9
  go_enter Tryd.func19, Tryd.ntmps19
  go_wp2
  go_ret
  exact ⟨rfl, hK.out⟩
set_option maxRecDepth 100000 in
theorem Ref_Fits_7o (s0 s1 s2 s3 s4 s5 s6 s7 s8 : Int) (u : Value) (w : World) (p0 : decide (s6 < -1) = false) (q0 : decide (6 < s6) = false) (p1 : decide (s0 < 0) = false) (q1 : decide (16777216 < s0) = false) (p2 : decide (s1 < 0) = false) (q2 : decide (16 < s1) = false) (p3 : decide (s2 < 1) = false) (q3 : decide (1048576 < s2) = false) (p4 : decide (s3 < 0) = false) (q4 : decide (1073741824 < s3) = false) (p5 : decide (s4 < 1) = false) (q5 : decide (64 < s4) = false) (p6 : decide (s5 < 1) = false) (q6 : decide (64 < s5) = false) :
    Calls Tryd.prog 19 #[.agg #[.int .i64 s0, .int .i64 s1, .int .i64 s2, .int .i64 s3, .int .i64 s4, .int .i64 s5, .int .i64 s6, .int .i64 s7, .int .i64 s8, u]] w fun r w' => r = .returned (.int .i64 0) ∧ Keep w w' := by
  have H0 := (Holds.start w).alloc (o := .cells #[.int .i64 s0, .int .i64 s1, .int .i64 s2, .int .i64 s3, .int .i64 s4, .int .i64 s5, .int .i64 s6, .int .i64 s7, .int .i64 s8, u] 37)
  obtain ⟨a0, a1, a2, a3, a4, a5, a6, a7, a8, a9⟩ := tenCells H0
  have hK := hide H0.drop.toKeep
  clear H0 a7 a8 a9
  go_enter Tryd.func19, Tryd.ntmps19
  go_wp2
  go_ret
  exact ⟨rfl, hK.out⟩
theorem dec_f {a : Prop} [Decidable a] (h : ¬ a) : decide a = false := decide_eq_false h
theorem dec_t {a : Prop} [Decidable a] (h : a) : decide a = true := decide_eq_true h
theorem Ref_Fits (p : Pic) (u : Value) (w : World) :
    Calls Tryd.prog 19 #[.agg (picCells p u)] w fun r w' => r = .returned (.int .i64 (cfgC p.c)) ∧ Keep w w' := by
  obtain ⟨⟨s0, s1, s2, s3, s4, s5, s6⟩, s7, s8, l⟩ := p
  have hc := cfgC_cases ⟨s0, s1, s2, s3, s4, s5, s6⟩
  dsimp only at hc ⊢
  obtain ⟨n, hn, hc⟩ := hc
  rw [hn]
  clear hn
  unfold picCells
  dsimp only
  rcases hc with ⟨rfl, h⟩ | ⟨h0, hc⟩
  · rcases not_in h with h | ⟨h', h⟩
    · exact Ref_Fits_0l _ _ _ _ _ _ _ _ _ _ _  (dec_t h)
    · exact Ref_Fits_0h _ _ _ _ _ _ _ _ _ _ _  (dec_f h') (dec_t h)
  rcases hc with ⟨rfl, h⟩ | ⟨h1, hc⟩
  · rcases not_in h with h | ⟨h', h⟩
    · exact Ref_Fits_1l _ _ _ _ _ _ _ _ _ _ _ (dec_f (is_in h0).1) (dec_f (is_in h0).2) (dec_t h)
    · exact Ref_Fits_1h _ _ _ _ _ _ _ _ _ _ _ (dec_f (is_in h0).1) (dec_f (is_in h0).2) (dec_f h') (dec_t h)
  rcases hc with ⟨rfl, h⟩ | ⟨h2, hc⟩
  · rcases not_in h with h | ⟨h', h⟩
    · exact Ref_Fits_2l _ _ _ _ _ _ _ _ _ _ _ (dec_f (is_in h0).1) (dec_f (is_in h0).2) (dec_f (is_in h1).1) (dec_f (is_in h1).2) (dec_t h)
    · exact Ref_Fits_2h _ _ _ _ _ _ _ _ _ _ _ (dec_f (is_in h0).1) (dec_f (is_in h0).2) (dec_f (is_in h1).1) (dec_f (is_in h1).2) (dec_f h') (dec_t h)
  rcases hc with ⟨rfl, h⟩ | ⟨h3, hc⟩
  · rcases not_in h with h | ⟨h', h⟩
    · exact Ref_Fits_3l _ _ _ _ _ _ _ _ _ _ _ (dec_f (is_in h0).1) (dec_f (is_in h0).2) (dec_f (is_in h1).1) (dec_f (is_in h1).2) (dec_f (is_in h2).1) (dec_f (is_in h2).2) (dec_t h)
    · exact Ref_Fits_3h _ _ _ _ _ _ _ _ _ _ _ (dec_f (is_in h0).1) (dec_f (is_in h0).2) (dec_f (is_in h1).1) (dec_f (is_in h1).2) (dec_f (is_in h2).1) (dec_f (is_in h2).2) (dec_f h') (dec_t h)
  rcases hc with ⟨rfl, h⟩ | ⟨h4, hc⟩
  · rcases not_in h with h | ⟨h', h⟩
    · exact Ref_Fits_4l _ _ _ _ _ _ _ _ _ _ _ (dec_f (is_in h0).1) (dec_f (is_in h0).2) (dec_f (is_in h1).1) (dec_f (is_in h1).2) (dec_f (is_in h2).1) (dec_f (is_in h2).2) (dec_f (is_in h3).1) (dec_f (is_in h3).2) (dec_t h)
    · exact Ref_Fits_4h _ _ _ _ _ _ _ _ _ _ _ (dec_f (is_in h0).1) (dec_f (is_in h0).2) (dec_f (is_in h1).1) (dec_f (is_in h1).2) (dec_f (is_in h2).1) (dec_f (is_in h2).2) (dec_f (is_in h3).1) (dec_f (is_in h3).2) (dec_f h') (dec_t h)
  rcases hc with ⟨rfl, h⟩ | ⟨h5, hc⟩
  · rcases not_in h with h | ⟨h', h⟩
    · exact Ref_Fits_5l _ _ _ _ _ _ _ _ _ _ _ (dec_f (is_in h0).1) (dec_f (is_in h0).2) (dec_f (is_in h1).1) (dec_f (is_in h1).2) (dec_f (is_in h2).1) (dec_f (is_in h2).2) (dec_f (is_in h3).1) (dec_f (is_in h3).2) (dec_f (is_in h4).1) (dec_f (is_in h4).2) (dec_t h)
    · exact Ref_Fits_5h _ _ _ _ _ _ _ _ _ _ _ (dec_f (is_in h0).1) (dec_f (is_in h0).2) (dec_f (is_in h1).1) (dec_f (is_in h1).2) (dec_f (is_in h2).1) (dec_f (is_in h2).2) (dec_f (is_in h3).1) (dec_f (is_in h3).2) (dec_f (is_in h4).1) (dec_f (is_in h4).2) (dec_f h') (dec_t h)
  rcases hc with ⟨rfl, h⟩ | ⟨h6, hc⟩
  · rcases not_in h with h | ⟨h', h⟩
    · exact Ref_Fits_6l _ _ _ _ _ _ _ _ _ _ _ (dec_f (is_in h0).1) (dec_f (is_in h0).2) (dec_f (is_in h1).1) (dec_f (is_in h1).2) (dec_f (is_in h2).1) (dec_f (is_in h2).2) (dec_f (is_in h3).1) (dec_f (is_in h3).2) (dec_f (is_in h4).1) (dec_f (is_in h4).2) (dec_f (is_in h5).1) (dec_f (is_in h5).2) (dec_t h)
    · exact Ref_Fits_6h _ _ _ _ _ _ _ _ _ _ _ (dec_f (is_in h0).1) (dec_f (is_in h0).2) (dec_f (is_in h1).1) (dec_f (is_in h1).2) (dec_f (is_in h2).1) (dec_f (is_in h2).2) (dec_f (is_in h3).1) (dec_f (is_in h3).2) (dec_f (is_in h4).1) (dec_f (is_in h4).2) (dec_f (is_in h5).1) (dec_f (is_in h5).2) (dec_f h') (dec_t h)
  subst hc
  exact Ref_Fits_7o _ _ _ _ _ _ _ _ _ _ _ (dec_f (is_in h0).1) (dec_f (is_in h0).2) (dec_f (is_in h1).1) (dec_f (is_in h1).2) (dec_f (is_in h2).1) (dec_f (is_in h2).2) (dec_f (is_in h3).1) (dec_f (is_in h3).2) (dec_f (is_in h4).1) (dec_f (is_in h4).2) (dec_f (is_in h5).1) (dec_f (is_in h5).2) (dec_f (is_in h6).1) (dec_f (is_in h6).2)
end Go.Proofs.YtggeppmiifkikaaDoor
