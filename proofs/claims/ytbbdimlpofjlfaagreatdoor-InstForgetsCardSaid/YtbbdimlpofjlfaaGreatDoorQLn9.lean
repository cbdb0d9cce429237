/- A learner in memory: New. -/
import Derived.Test.YtbbdimlpofjlfaaGreatDoorQLn4
import Derived.Test.YtbbdimlpofjlfaaGreatDoorQTwLearn
import Derived.Laws.EntriesVeiled
import Derived.Test.YtbbdimlpofjlfaaGreatDoorQDraw1
import Derived.Test.YtbbdimlpofjlfaaGreatDoorQErrIs
namespace Go.Proofs.YtbbdimlpofjlfaaGreatDoor
open Go Go.RowKit

/-- The cells of a learner that is being made. -/
def nlc (kind : Int) (m tb lane mp : Nat) (a b ga gb : Value) : Array Value := #[.int .i64 kind, .int .i64 (m : Nat), .pointer (some ⟨tb, 0, none⟩), .int .i64 (lane : Nat), a, b, ga, gb, .map (some mp), .int .i64 0, .int .u64 2305843009213693952, .int .u64 2075258708292324556, .int .i64 0, .int .i64 0, .int .i64 0, .int .i64 0, .bool true, .bool false]
set_option maxRecDepth 100000
set_option maxHeartbeats 2000000
theorem Ln_New_5 {g w : World} {F : List SProp} {tb : Nat} (m : Nat) (hm : m ≤ 16777216) (lane : Nat) (h : Holds g w F) :
    Calls Tryz.prog 43 #[.int .i64 5, .int .i64 (m : Nat), .pointer (some ⟨tb, 0, none⟩), .int .i64 (lane : Nat)] w fun r w' => ∃ b, r = .returned (.tuple #[.pointer (some ⟨b, 0, none⟩), .nilIface]) ∧ Holds g w' (IsLn b tb (Ln.new 5 m [] lane) :: F) := by
  have h := hide h
  have hmm := @run_makeMap Tryz.prog
  obtain ⟨kb, hkb⟩ : ∃ kb, w.heap.size = kb := ⟨_, rfl⟩
  have i0 : ∀ w : World, (Instr.index 147 (.agg #[.int .i64 0, .int .i64 1]) (.int .i64 0)).run Tryz.prog w = .ok (.int .i64 0) w := fun _ => by kernel_rfl
  have i1 : ∀ w : World, (Instr.index 147 (.agg #[.int .i64 0, .int .i64 1]) (.int .i64 1)).run Tryz.prog w = .ok (.int .i64 1) w := fun _ => by kernel_rfl
  have hm := hide hm
  have H0 := hide ((h.out.alloc (o := .cells #[.int .i64 0, .int .i64 1] 147)).newMap)
  have v0 : (w.alloc (.cells #[.int .i64 0, .int .i64 1] 147)).frozen? ⟨kb, 0, none⟩ = false := by rw [← hkb]; exact Holds.free (h.out.alloc (o := .cells #[.int .i64 0, .int .i64 1] 147))
  have v1 : (w.alloc (.cells #[.int .i64 0, .int .i64 1] 147)).frozen? ⟨kb, 1, none⟩ = false := by rw [← hkb]; exact Holds.free (h.out.alloc (o := .cells #[.int .i64 0, .int .i64 1] 147))
  have x0 : (w.alloc (.cells #[.int .i64 0, .int .i64 1] 147)).cell? ⟨kb, 0, none⟩ = some (.int .i64 0) := by rw [← hkb]; exact Holds.cell (h.out.alloc (o := .cells #[.int .i64 0, .int .i64 1] 147)) rfl
  have x1 : (w.alloc (.cells #[.int .i64 0, .int .i64 1] 147)).cell? ⟨kb, 1, none⟩ = some (.int .i64 1) := by rw [← hkb]; exact Holds.cell (h.out.alloc (o := .cells #[.int .i64 0, .int .i64 1] 147)) rfl
  go_enter Tryz.func43, Tryz.ntmps43
  go_upto_region 7 with (go_at_call 66; (with_reducible refine (part_45 _).mono ?_); rintro r w1 ⟨rfl, k1⟩; have k1 := hide k1)
  obtain ⟨b, hb⟩ : ∃ b, w1.heap.size = b := ⟨_, rfl⟩
  have HL := (H0.out.keep k1.out).alloc (o := .cells (nlc 5 m tb lane (kb + 1) (.pointer none) (.pointer none) (.pointer none) (.pointer none)) 154)
  simp only [World.size_alloc] at HL
  rw [hkb, hb] at HL
  simp only [hb]
  obtain ⟨W1, hW1⟩ : ∃ W1, w1.alloc (.cells (nlc 5 m tb lane (kb + 1) (.pointer none) (.pointer none) (.pointer none) (.pointer none)) 154) = W1 := ⟨_, rfl⟩
  rw [hW1] at HL
  unfold nlc at hW1
  rw [hW1]
  clear hW1 hb H0 k1 hkb hmm x0 x1 v0 v1
  have y0 : W1.cell? ⟨kb, 0, none⟩ = some (.int .i64 0) := Holds.cell (Holds.p2 HL) rfl
  have y1 : W1.cell? ⟨kb, 1, none⟩ = some (.int .i64 1) := Holds.cell (Holds.p2 HL) rfl
  have HL := hide HL
  go_wp2
  clear y0 y1
  refine wp_loop_rounds 3 ?_
  rw [rounds_succ]
  go_upto_region 13 with (go_at_call 44; (with_reducible refine (Pol_New_lru HL.out m hm.out).mono ?_); rintro r w2 ⟨pa, rfl, h2⟩; have h2 := hide h2)
  have H2 := hide h2.out.drew
  have u4 : w2.cell? ⟨b, 4, none⟩ = some (.pointer none) := Holds.cell (Holds.p1 h2.out) rfl
  have u6 : w2.cell? ⟨b, 6, none⟩ = some (.pointer none) := Holds.cell (Holds.p1 h2.out) rfl
  have v4 : w2.frozen? ⟨b, 4, none⟩ = false := Holds.free (Holds.p1 h2.out)
  have v6 : w2.frozen? ⟨b, 6, none⟩ = false := Holds.free (Holds.p1 h2.out)
  go_region_with ((go_at_call 67; (with_reducible refine (List_New H2.out).mono ?_); rintro r w3 ⟨ga, rfl, h3⟩; have q4 : w3.cell? ⟨b, 4, none⟩ = some (.pointer none) := Holds.cell (Holds.p2 h3) rfl; have q6 : w3.cell? ⟨b, 6, none⟩ = some (.pointer none) := Holds.cell (Holds.p2 h3) rfl; have z4 : w3.frozen? ⟨b, 4, none⟩ = false := Holds.free (Holds.p2 h3); have z6 : w3.frozen? ⟨b, 6, none⟩ = false := Holds.free (Holds.p2 h3); have h3 := hide h3))
  all_goals
    have H3 := hide (setAt (setAt (Holds.p2 h3.out) (off := 4) (v := .pointer (some ⟨pa, 0, none⟩)) (cs' := nlc 5 m tb lane (kb + 1) (.pointer (some ⟨pa, 0, none⟩)) (.pointer none) (.pointer none) (.pointer none)) rfl) (off := 6) (v := .pointer (some ⟨ga, 0, none⟩)) (cs' := nlc 5 m tb lane (kb + 1) (.pointer (some ⟨pa, 0, none⟩)) (.pointer none) (.pointer (some ⟨ga, 0, none⟩)) (.pointer none)) rfl)
    clear h3 H2 h2 HL u4 u6 v4 v6 q4 q6 z4 z6
    go_wp2
    rw [rounds_succ]
    go_upto_region 13 with (go_at_call 44; (with_reducible refine (Pol_New_lfu H3.out m hm.out).mono ?_); rintro r w4 ⟨pb, rfl, h4⟩; have h4 := hide h4)
    have H4 := hide h4.out.drew
    have u5 : w4.cell? ⟨b, 5, none⟩ = some (.pointer none) := Holds.cell (Holds.p1 h4.out) rfl
    have u7 : w4.cell? ⟨b, 7, none⟩ = some (.pointer none) := Holds.cell (Holds.p1 h4.out) rfl
    have v5 : w4.frozen? ⟨b, 5, none⟩ = false := Holds.free (Holds.p1 h4.out)
    have v7 : w4.frozen? ⟨b, 7, none⟩ = false := Holds.free (Holds.p1 h4.out)
    go_region_with ((go_at_call 67; (with_reducible refine (List_New H4.out).mono ?_); rintro r w5 ⟨gb, rfl, h5⟩; have q5 : w5.cell? ⟨b, 5, none⟩ = some (.pointer none) := Holds.cell (Holds.p2 h5) rfl; have q7 : w5.cell? ⟨b, 7, none⟩ = some (.pointer none) := Holds.cell (Holds.p2 h5) rfl; have z5 : w5.frozen? ⟨b, 5, none⟩ = false := Holds.free (Holds.p2 h5); have z7 : w5.frozen? ⟨b, 7, none⟩ = false := Holds.free (Holds.p2 h5); have h5 := hide h5))
    all_goals
      have H5 := hide (setAt (setAt (Holds.p2 h5.out) (off := 5) (v := .pointer (some ⟨pb, 0, none⟩)) (cs' := nlc 5 m tb lane (kb + 1) (.pointer (some ⟨pa, 0, none⟩)) (.pointer (some ⟨pb, 0, none⟩)) (.pointer (some ⟨ga, 0, none⟩)) (.pointer none)) rfl) (off := 7) (v := .pointer (some ⟨gb, 0, none⟩)) (cs' := nlc 5 m tb lane (kb + 1) (.pointer (some ⟨pa, 0, none⟩)) (.pointer (some ⟨pb, 0, none⟩)) (.pointer (some ⟨ga, 0, none⟩)) (.pointer (some ⟨gb, 0, none⟩))) rfl)
      clear h5 H4 h4 H3 u5 u7 v5 v7 q5 q7 z5 z7
      go_wp2
      rw [rounds_succ]
      go_wp2
      go_ret2
      refine ⟨b, rfl, ?_⟩
      have H6 : Holds g _ (LnRaw b ⟨tb, pa, pb, ga, gb, kb + 1, 0, 1, m, m⟩ (Ln.new 5 m [] lane) (pts kb (.cells #[.int .i64 0, .int .i64 1] 147) :: F)) := H5.out.p3.p3.p4.p3
      exact (Holds.toLn H6).p1.drop
theorem Ln_New_6 {g w : World} {F : List SProp} {tb : Nat} (m : Nat) (hm : m ≤ 16777216) (lane : Nat) (h : Holds g w F) :
    Calls Tryz.prog 43 #[.int .i64 6, .int .i64 (m : Nat), .pointer (some ⟨tb, 0, none⟩), .int .i64 (lane : Nat)] w fun r w' => ∃ b, r = .returned (.tuple #[.pointer (some ⟨b, 0, none⟩), .nilIface]) ∧ Holds g w' (IsLn b tb (Ln.new 6 m [] lane) :: F) := by
  have h := hide h
  have hmm := @run_makeMap Tryz.prog
  obtain ⟨kb, hkb⟩ : ∃ kb, w.heap.size = kb := ⟨_, rfl⟩
  have i0 : ∀ w : World, (Instr.index 147 (.agg #[.int .i64 3, .int .i64 2]) (.int .i64 0)).run Tryz.prog w = .ok (.int .i64 3) w := fun _ => by kernel_rfl
  have i1 : ∀ w : World, (Instr.index 147 (.agg #[.int .i64 3, .int .i64 2]) (.int .i64 1)).run Tryz.prog w = .ok (.int .i64 2) w := fun _ => by kernel_rfl
  have hm := hide hm
  have H0 := hide ((h.out.alloc (o := .cells #[.int .i64 3, .int .i64 2] 147)).newMap)
  have v0 : (w.alloc (.cells #[.int .i64 0, .int .i64 1] 147)).frozen? ⟨kb, 0, none⟩ = false := by rw [← hkb]; exact Holds.free (h.out.alloc (o := .cells #[.int .i64 0, .int .i64 1] 147))
  have v1 : (w.alloc (.cells #[.int .i64 0, .int .i64 1] 147)).frozen? ⟨kb, 1, none⟩ = false := by rw [← hkb]; exact Holds.free (h.out.alloc (o := .cells #[.int .i64 0, .int .i64 1] 147))
  have x0 : (w.alloc (.cells #[.int .i64 0, .int .i64 1] 147)).cell? ⟨kb, 0, none⟩ = some (.int .i64 0) := by rw [← hkb]; exact Holds.cell (h.out.alloc (o := .cells #[.int .i64 0, .int .i64 1] 147)) rfl
  have x1 : (w.alloc (.cells #[.int .i64 0, .int .i64 1] 147)).cell? ⟨kb, 1, none⟩ = some (.int .i64 1) := by rw [← hkb]; exact Holds.cell (h.out.alloc (o := .cells #[.int .i64 0, .int .i64 1] 147)) rfl
  go_enter Tryz.func43, Tryz.ntmps43
  go_upto_region 7 with (go_at_call 66; (with_reducible refine (part_45 _).mono ?_); rintro r w1 ⟨rfl, k1⟩; have k1 := hide k1)
  obtain ⟨b, hb⟩ : ∃ b, w1.heap.size = b := ⟨_, rfl⟩
  have HL := (H0.out.keep k1.out).alloc (o := .cells (nlc 6 m tb lane (kb + 1) (.pointer none) (.pointer none) (.pointer none) (.pointer none)) 154)
  simp only [World.size_alloc] at HL
  rw [hkb, hb] at HL
  simp only [hb]
  obtain ⟨W1, hW1⟩ : ∃ W1, w1.alloc (.cells (nlc 6 m tb lane (kb + 1) (.pointer none) (.pointer none) (.pointer none) (.pointer none)) 154) = W1 := ⟨_, rfl⟩
  rw [hW1] at HL
  unfold nlc at hW1
  rw [hW1]
  clear hW1 hb H0 k1 hkb hmm x0 x1 v0 v1
  have y0 : W1.cell? ⟨kb, 0, none⟩ = some (.int .i64 3) := Holds.cell (Holds.p2 HL) rfl
  have y1 : W1.cell? ⟨kb, 1, none⟩ = some (.int .i64 2) := Holds.cell (Holds.p2 HL) rfl
  have HL := hide HL
  go_wp2
  clear y0 y1
  refine wp_loop_rounds 3 ?_
  rw [rounds_succ]
  go_upto_region 13 with (go_at_call 44; (with_reducible refine (Pol_New_sr HL.out m hm.out).mono ?_); rintro r w2 ⟨pa, rfl, h2⟩; have h2 := hide h2)
  have H2 := hide h2.out.drew
  have u4 : w2.cell? ⟨b, 4, none⟩ = some (.pointer none) := Holds.cell (Holds.p1 h2.out) rfl
  have u6 : w2.cell? ⟨b, 6, none⟩ = some (.pointer none) := Holds.cell (Holds.p1 h2.out) rfl
  have v4 : w2.frozen? ⟨b, 4, none⟩ = false := Holds.free (Holds.p1 h2.out)
  have v6 : w2.frozen? ⟨b, 6, none⟩ = false := Holds.free (Holds.p1 h2.out)
  go_region_with ((go_at_call 67; (with_reducible refine (List_New H2.out).mono ?_); rintro r w3 ⟨ga, rfl, h3⟩; have q4 : w3.cell? ⟨b, 4, none⟩ = some (.pointer none) := Holds.cell (Holds.p2 h3) rfl; have q6 : w3.cell? ⟨b, 6, none⟩ = some (.pointer none) := Holds.cell (Holds.p2 h3) rfl; have z4 : w3.frozen? ⟨b, 4, none⟩ = false := Holds.free (Holds.p2 h3); have z6 : w3.frozen? ⟨b, 6, none⟩ = false := Holds.free (Holds.p2 h3); have h3 := hide h3))
  all_goals
    have H3 := hide (setAt (setAt (Holds.p2 h3.out) (off := 4) (v := .pointer (some ⟨pa, 0, none⟩)) (cs' := nlc 6 m tb lane (kb + 1) (.pointer (some ⟨pa, 0, none⟩)) (.pointer none) (.pointer none) (.pointer none)) rfl) (off := 6) (v := .pointer (some ⟨ga, 0, none⟩)) (cs' := nlc 6 m tb lane (kb + 1) (.pointer (some ⟨pa, 0, none⟩)) (.pointer none) (.pointer (some ⟨ga, 0, none⟩)) (.pointer none)) rfl)
    clear h3 H2 h2 HL u4 u6 v4 v6 q4 q6 z4 z6
    go_wp2
    rw [rounds_succ]
    go_upto_region 13 with (go_at_call 44; (with_reducible refine (Pol_New_cr H3.out m hm.out).mono ?_); rintro r w4 ⟨pb, rfl, h4⟩; have h4 := hide h4)
    have H4 := hide h4.out.drew
    have u5 : w4.cell? ⟨b, 5, none⟩ = some (.pointer none) := Holds.cell (Holds.p1 h4.out) rfl
    have u7 : w4.cell? ⟨b, 7, none⟩ = some (.pointer none) := Holds.cell (Holds.p1 h4.out) rfl
    have v5 : w4.frozen? ⟨b, 5, none⟩ = false := Holds.free (Holds.p1 h4.out)
    have v7 : w4.frozen? ⟨b, 7, none⟩ = false := Holds.free (Holds.p1 h4.out)
    go_region_with ((go_at_call 67; (with_reducible refine (List_New H4.out).mono ?_); rintro r w5 ⟨gb, rfl, h5⟩; have q5 : w5.cell? ⟨b, 5, none⟩ = some (.pointer none) := Holds.cell (Holds.p2 h5) rfl; have q7 : w5.cell? ⟨b, 7, none⟩ = some (.pointer none) := Holds.cell (Holds.p2 h5) rfl; have z5 : w5.frozen? ⟨b, 5, none⟩ = false := Holds.free (Holds.p2 h5); have z7 : w5.frozen? ⟨b, 7, none⟩ = false := Holds.free (Holds.p2 h5); have h5 := hide h5))
    all_goals
      have H5 := hide (setAt (setAt (Holds.p2 h5.out) (off := 5) (v := .pointer (some ⟨pb, 0, none⟩)) (cs' := nlc 6 m tb lane (kb + 1) (.pointer (some ⟨pa, 0, none⟩)) (.pointer (some ⟨pb, 0, none⟩)) (.pointer (some ⟨ga, 0, none⟩)) (.pointer none)) rfl) (off := 7) (v := .pointer (some ⟨gb, 0, none⟩)) (cs' := nlc 6 m tb lane (kb + 1) (.pointer (some ⟨pa, 0, none⟩)) (.pointer (some ⟨pb, 0, none⟩)) (.pointer (some ⟨ga, 0, none⟩)) (.pointer (some ⟨gb, 0, none⟩))) rfl)
      clear h5 H4 h4 H3 u5 u7 v5 v7 q5 q7 z5 z7
      go_wp2
      rw [rounds_succ]
      go_wp2
      go_ret2
      refine ⟨b, rfl, ?_⟩
      have H6 : Holds g _ (LnRaw b ⟨tb, pa, pb, ga, gb, kb + 1, 3, 2, m, m⟩ (Ln.new 6 m [] lane) (pts kb (.cells #[.int .i64 3, .int .i64 2] 147) :: F)) := H5.out.p3.p3.p4.p3
      exact (Holds.toLn H6).p1.drop
end Go.Proofs.YtbbdimlpofjlfaaGreatDoor
/- A learner is made, of either kind. -/
namespace Go.Proofs.YtbbdimlpofjlfaaGreatDoor
open Go Go.RowKit

theorem Holds.one {g w : World} {F : List SProp} {q : Nat} {e : TypeId} {v : Value} (h : Holds g w (pts q (.cells #[v] e) :: F)) : Holds g w (OwnRow e 1 (.slice (some ⟨q, 0, none⟩) 1 1) 1 [v] :: F) :=
  h.ptsRow ⟨rfl, Nat.le_refl _, by simp only [maxLen]; omega, rfl, rfl⟩
theorem Holds.two {g w : World} {F : List SProp} {q : Nat} {e : TypeId} {v u : Value} (h : Holds g w (pts q (.cells #[v, u] e) :: F)) : Holds g w (OwnRow e 1 (.slice (some ⟨q, 0, none⟩) 2 2) 2 [v, u] :: F) :=
  h.ptsRow ⟨rfl, Nat.le_refl _, by simp only [maxLen]; omega, rfl, rfl⟩
set_option maxRecDepth 100000
set_option maxHeartbeats 1000000
/-- Of either kind. -/
theorem Ln_New {g w : World} {F : List SProp} {tb : Nat} (kind : Int) (hk : kind = 5 ∨ kind = 6) (m : Nat) (hm : m ≤ 16777216) (t : List (List Nat)) (lane : Nat) (h : Holds g w F) :
    Calls Tryz.prog 43 #[.int .i64 kind, .int .i64 (m : Nat), .pointer (some ⟨tb, 0, none⟩), .int .i64 (lane : Nat)] w fun r w' => ∃ b, r = .returned (.tuple #[.pointer (some ⟨b, 0, none⟩), .nilIface]) ∧ Holds g w' (IsLn b tb (Ln.new kind m t lane) :: F) := by
  rcases hk with rfl | rfl
  · exact (Ln_New_5 (tb := tb) m hm lane h).mono fun r w' ⟨b, hr, h1⟩ => ⟨b, hr, h1⟩
  · exact (Ln_New_6 (tb := tb) m hm lane h).mono fun r w' ⟨b, hr, h1⟩ => ⟨b, hr, h1⟩
theorem Ln_New0 {g w : World} {F : List SProp} {tb : Nat} (kind : Int) (hk : kind = 5 ∨ kind = 6) (m : Nat) (hm : m ≤ 16777216) (t : List (List Nat)) (h : Holds g w F) :
    Calls Tryz.prog 43 #[.int .i64 kind, .int .i64 (m : Nat), .pointer (some ⟨tb, 0, none⟩), .int .i64 0] w fun r w' => ∃ b, r = .returned (.tuple #[.pointer (some ⟨b, 0, none⟩), .nilIface]) ∧ Holds g w' (IsLn b tb (Ln.new kind m t 0) :: F) := Ln_New (tb := tb) kind hk m hm t 0 h
end Go.Proofs.YtbbdimlpofjlfaaGreatDoor
/- A learner in memory: what New refuses. -/
namespace Go.Proofs.YtbbdimlpofjlfaaGreatDoor
open Go Go.RowKit

set_option maxRecDepth 100000
set_option maxHeartbeats 2000000
theorem Ln_New_kind (kind m : Int) (h5 : kind ≠ 5) (h6 : kind ≠ 6) (t : Value) (lane : Int) (w : World) :
    Calls Tryz.prog 43 #[.int .i64 kind, .int .i64 m, t, .int .i64 lane] w fun r w' => ∃ v, r = .returned (.tuple #[.pointer none, v]) ∧ Keep w w' ∧ ErrAt w' (.fault ⟨#[108, 101, 97, 114, 110]⟩ ⟨#[]⟩ (.no 7)) v := by
  have g5 : (kind != 5) = true := by rw [bne_iff_ne]; exact h5
  have g6 : (kind != 6) = true := by rw [bne_iff_ne]; exact h6
  have g7 : (kind == 5) = false := by rw [beq_eq_false_iff_ne]; exact h5
  have g8 : (kind == 6) = false := by rw [beq_eq_false_iff_ne]; exact h6
  go_enter Tryz.func43, Tryz.ntmps43
  go_wp2_with (go_at_call 65; (with_reducible refine (Ln_fault _ _ _).mono ?_); rintro r w1 ⟨v, rfl, hk, he⟩; have hk := hide hk; have he := hide he)
  go_ret2
  exact ⟨v, rfl, hk.out, he.out⟩
theorem Ln_New_size5 (m : Int) (hm : m < 0 ∨ 16777216 < m) (t : Nat) (lane : Int) (w : World) :
    Calls Tryz.prog 43 #[.int .i64 5, .int .i64 m, .pointer (some ⟨t, 0, none⟩), .int .i64 lane] w fun r w' => ∃ v, r = .returned (.tuple #[.pointer none, v]) ∧ Keep w w' ∧ ErrAt w' (.fault ⟨#[108, 101, 97, 114, 110]⟩ ⟨#[]⟩ (.no 1)) v := by
  have hmm := @run_makeMap Tryz.prog
  have i0 : ∀ w : World, (Instr.index 147 (.agg #[.int .i64 0, .int .i64 1]) (.int .i64 0)).run Tryz.prog w = .ok (.int .i64 0) w := fun _ => by kernel_rfl
  have h := hide (Holds.start w)
  obtain ⟨kb, hkb⟩ : ∃ kb, w.heap.size = kb := ⟨_, rfl⟩
  have H0 := (h.out.alloc (o := .cells #[.int .i64 0, .int .i64 1] 147))
  rw [hkb] at H0
  have k0 : Hide (∀ w', Keep (w.alloc (.cells #[.int .i64 0, .int .i64 1] 147)) w' → w'.cell? ⟨kb, 0, none⟩ = some (.int .i64 0) ∧ w'.cell? ⟨kb, 1, none⟩ = some (.int .i64 1)) := ⟨fun w' kk => ⟨kk.cell (Holds.cell H0 rfl), kk.cell (Holds.cell H0 rfl)⟩⟩
  replace hm := hide hm
  clear H0
  have hP := hide (fun w => Pol_New_no m hm.out w 0 (by omega))
  go_enter Tryz.func43, Tryz.ntmps43
  go_upto_region 7 with (go_at_call 66; (with_reducible refine (part_45 _).mono ?_); rintro r w1 ⟨rfl, k1⟩; have k1 := hide k1)
  have k2 := hide (k1.out.alloc (o := .cells #[.int .i64 5, .int .i64 m, .pointer (some ⟨t, 0, none⟩), .int .i64 lane, .pointer none, .pointer none, .pointer none, .pointer none, .map (some (kb + 1)), .int .i64 0, .int .u64 2305843009213693952, .int .u64 2075258708292324556, .int .i64 0, .int .i64 0, .int .i64 0, .int .i64 0, .bool true, .bool false] 154))
  generalize w1.alloc _ = W2 at k2 ⊢
  obtain ⟨y0, y1⟩ := k0.out _ ((Keep.refl _).alloc.trans k2.out)
  go_wp2
  clear y0 y1
  refine wp_loop_rounds 3 ?_
  rw [rounds_succ]
  go_wp2_with (first
    | (go_at_call 44; (with_reducible refine (hP.out _).mono ?_); rintro r w3 ⟨v, rfl, k3, he⟩; obtain ⟨b, ve, rfl, _, _⟩ := he; have k3 := hide k3)
    | (go_at_call 65; (with_reducible refine (Ln_fault _ _ _).mono ?_); rintro r w1 ⟨v, rfl, hk, he⟩; have hk := hide hk; have he := hide he))
  go_ret2
  refine ⟨_, rfl, ?_, he.out⟩
  exact (((Keep.refl w).alloc.alloc.trans k2.out).trans k3.out).trans hk.out
end Go.Proofs.YtbbdimlpofjlfaaGreatDoor
