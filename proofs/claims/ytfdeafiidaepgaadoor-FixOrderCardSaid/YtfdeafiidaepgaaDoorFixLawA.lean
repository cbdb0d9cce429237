/- The laws FixSums, FixOrder, FixPowers: their walks. -/
import Derived.Test.YtfdeafiidaepgaaDoorFixVals
namespace Go.Proofs.YtfdeafiidaepgaaDoor
open Go Go.RowKit Go.Shelf Go.Proofs.Mul64

theorem beqN {a b : Nat} (h : a ≠ b) : ((a : Int) == (b : Int)) = false := by rw [beq_eq_false_iff_ne]; omega
theorem bneN {a b : Nat} (h : a ≠ b) : ((a : Int) != (b : Int)) = true := by rw [bne_iff_ne]; omega
set_option maxRecDepth 100000 in
set_option maxHeartbeats 4000000 in
theorem walk_FixSums (a b c : Nat) (ha : a < 18446744073709551616) (hb : b < 18446744073709551616) (hc : c < 18446744073709551616) (W : World) (hE : Env W) :
    Calls Tryd.prog 8 #[.int .u64 a, .int .u64 b, .int .u64 c] W fun e w' => e = .returned (.bool true) ∧ Holds W w' [] := by
  have hE := hide hE
  have q1 := fadd_assoc a b c ha hb hc
  have q2 : a ≤ fadd a b := le_fadd a b ha
  have q3 : b ≤ fadd a b := by rw [fadd_comm]; exact le_fadd b a hb
  have q4 := fsub_fadd a b
  obtain ⟨s, hs⟩ : ∃ s, fadd a b = s := ⟨_, rfl⟩
  obtain ⟨u, hu⟩ : ∃ u, fadd b c = u := ⟨_, rfl⟩
  obtain ⟨t, ht⟩ : ∃ t, fadd a u = t := ⟨_, rfl⟩
  have hsl : s < 18446744073709551616 := by rw [← hs]; exact fadd_lt _ _
  have hul : u < 18446744073709551616 := by rw [← hu]; exact fadd_lt _ _
  have hs2 : fadd b a = s := by rw [fadd_comm]; exact hs
  rw [hs, hu, ht] at q1
  rw [hs] at q2 q3 q4
  have hs := hide hs
  have hs2 := hide hs2
  have hu := hide hu
  have ht := hide ht
  have q1 := hide q1
  have q2' : (a : Int) ≤ s := by omega
  have q3' : (b : Int) ≤ s := by omega
  have q4 := hide q4
  clear q2 q3
  by_cases hm : s = 18446744073709551615
  · subst hm
    have ht2 : t = 18446744073709551615 := by rw [← q1.out, fadd]; split <;> omega
    subst ht2
    clear q2' q3'
    have q2' : (a : Int) ≤ 18446744073709551615 := by omega
    have q3' : (b : Int) ≤ 18446744073709551615 := by omega
    go_enter Tryd.func8, Tryd.ntmps8
    go_wp2_with (first
      | (go_at_call 12; (with_reducible refine (awake01 W hE.out).mono ?_); rintro r wn ⟨rfl, h⟩; have k := hide h; clear h)
      | (go_at_call 17; (with_reducible refine (Add_most a b hs.out ha hb _).mono ?_); rintro r wn ⟨rfl, h⟩; replace k := hide (k.out.trans h); clear h)
      | (go_at_call 17; (with_reducible refine (Add_most b a hs2.out hb ha _).mono ?_); rintro r wn ⟨rfl, h⟩; replace k := hide (k.out.trans h); clear h)
      | (go_at_call 17; (with_reducible refine (Add_val b c u hu.out hb hc _).mono ?_); rintro r wn ⟨rfl, h⟩; replace k := hide (k.out.trans h); clear h)
      | (go_at_call 17; (with_reducible refine (Most_Add c hc _).mono ?_); rintro r wn ⟨rfl, h⟩; replace k := hide (k.out.trans h); clear h)
      | (go_at_call 17; (with_reducible refine (Add_most a u ht.out ha hul _).mono ?_); rintro r wn ⟨rfl, h⟩; replace k := hide (k.out.trans h); clear h)
      | (go_at_call 17; (with_reducible refine (Add_0 a ha _).mono ?_); rintro r wn ⟨rfl, h⟩; replace k := hide (k.out.trans h); clear h)
      | (go_at_call 19; (with_reducible refine (Sub_0 a ha _).mono ?_); rintro r wn ⟨rfl, h⟩; replace k := hide (k.out.trans h); clear h)
      | (go_at_call 19; (with_reducible refine (Sub_self a ha _).mono ?_); rintro r wn ⟨rfl, h⟩; replace k := hide (k.out.trans h); clear h)
      | (go_at_call 21; (with_reducible refine (Mul_0 a ha _).mono ?_); rintro r wn ⟨rfl, h⟩; replace k := hide (k.out.trans h); clear h))
    go_ret
    exact ⟨rfl, k.out.holds⟩
  · have hm' : ((s : Int) == 18446744073709551615) = false := by rw [beq_eq_false_iff_ne]; omega
    have q4 := hide (q4.out.resolve_left hm)
    clear hm
    go_enter Tryd.func8, Tryd.ntmps8
    go_wp2_with (first
      | (go_at_call 12; (with_reducible refine (awake01 W hE.out).mono ?_); rintro r wn ⟨rfl, h⟩; have k := hide h; clear h)
      | (go_at_call 17; (with_reducible refine (Add_val a b s hs.out ha hb _).mono ?_); rintro r wn ⟨rfl, h⟩; replace k := hide (k.out.trans h); clear h)
      | (go_at_call 17; (with_reducible refine (Add_val b a s hs2.out hb ha _).mono ?_); rintro r wn ⟨rfl, h⟩; replace k := hide (k.out.trans h); clear h)
      | (go_at_call 17; (with_reducible refine (Add_val b c u hu.out hb hc _).mono ?_); rintro r wn ⟨rfl, h⟩; replace k := hide (k.out.trans h); clear h)
      | (go_at_call 17; (with_reducible refine (Add_val s c t q1.out hsl hc _).mono ?_); rintro r wn ⟨rfl, h⟩; replace k := hide (k.out.trans h); clear h)
      | (go_at_call 17; (with_reducible refine (Add_val a u t ht.out ha hul _).mono ?_); rintro r wn ⟨rfl, h⟩; replace k := hide (k.out.trans h); clear h)
      | (go_at_call 17; (with_reducible refine (Add_0 a ha _).mono ?_); rintro r wn ⟨rfl, h⟩; replace k := hide (k.out.trans h); clear h)
      | (go_at_call 19; (with_reducible refine (Sub_0 a ha _).mono ?_); rintro r wn ⟨rfl, h⟩; replace k := hide (k.out.trans h); clear h)
      | (go_at_call 19; (with_reducible refine (Sub_self a ha _).mono ?_); rintro r wn ⟨rfl, h⟩; replace k := hide (k.out.trans h); clear h)
      | (go_at_call 19; (with_reducible refine (Sub_val s b a q4.out hsl hb _).mono ?_); rintro r wn ⟨rfl, h⟩; replace k := hide (k.out.trans h); clear h)
      | (go_at_call 21; (with_reducible refine (Mul_0 a ha _).mono ?_); rintro r wn ⟨rfl, h⟩; replace k := hide (k.out.trans h); clear h))
    go_ret
    exact ⟨rfl, k.out.holds⟩

set_option maxRecDepth 100000 in
set_option maxHeartbeats 4000000 in
theorem walk_FixPowers_out (a b : Nat) (n : Int) (h : n < 0 ∨ 1099511627776 < n) (W : World) (hE : Env W) :
    Calls Tryd.prog 6 #[.int .u64 a, .int .u64 b, .int .i64 n] W fun e w' => e = .returned (.bool true) ∧ Holds W w' [] := by
  have hE := hide hE
  by_cases h0 : n < 0
  · clear h
    go_enter Tryd.func6, Tryd.ntmps6
    go_wp2_with (go_at_call 12; (with_reducible refine (awake01 W hE.out).mono ?_); rintro r wn ⟨rfl, h⟩; have k := hide h; clear h)
    go_ret
    exact ⟨rfl, k.out.holds⟩
  · have h1 : 1099511627776 < n := by omega
    clear h
    go_enter Tryd.func6, Tryd.ntmps6
    go_wp2_with (go_at_call 12; (with_reducible refine (awake01 W hE.out).mono ?_); rintro r wn ⟨rfl, h⟩; have k := hide h; clear h)
    go_ret
    exact ⟨rfl, k.out.holds⟩
set_option maxRecDepth 100000 in
set_option maxHeartbeats 4000000 in
theorem walk_FixPowers_in (a b : Nat) (n : Int) (h0 : 0 ≤ n) (h1 : n ≤ 1099511627776) (ha : a < 18446744073709551616) (hb : b < 18446744073709551616) (W : World) (hE : Env W) :
    Calls Tryd.prog 6 #[.int .u64 a, .int .u64 b, .int .i64 n] W fun e w' => e = .returned (.bool true) ∧ Holds W w' [] := by
  have hE := hide hE
  have q1 : a ≤ b → fpow a n ≤ fpow b n := fpow_mono n
  have q2 : a ≤ 4611686018427387904 → fpow a n ≤ 4611686018427387904 := fpow_le a n h0
  have q3 : a ≤ 4611686018427387904 → fpow a (n + 1) ≤ 4611686018427387904 := fpow_le a (n + 1) (by omega)
  obtain ⟨x, hx⟩ : ∃ x, fpow a n = x := ⟨_, rfl⟩
  obtain ⟨y, hy⟩ : ∃ y, fpow b n = y := ⟨_, rfl⟩
  obtain ⟨z, hz⟩ : ∃ z, fpow a (n + 1) = z := ⟨_, rfl⟩
  rw [hx, hy] at q1
  rw [hx] at q2
  rw [hz] at q3
  have hx := hide hx
  have hy := hide hy
  have hz := hide hz
  have q1 := hide q1
  have q2 := hide q2
  have q3 := hide q3
  by_cases h2 : a ≤ b <;> by_cases h3 : a ≤ 4611686018427387904
  all_goals
    first
      | (have e1 := q1.out h2; have e1' : (x : Int) ≤ y := (by omega); have h2' : ¬ (b : Int) < a := (by omega); clear h2)
      | (have h2' : (b : Int) < a := (by omega); clear h2)
    first
      | (have e2 := q2.out h3; have e3 := q3.out h3; have e2' : (x : Int) ≤ 4611686018427387904 := (by omega); have e3' : (z : Int) ≤ 4611686018427387904 := (by omega); have h3' : ¬ (4611686018427387904 : Int) < a := (by omega); clear h3)
      | (have h3' : (4611686018427387904 : Int) < a := (by omega); clear h3)
    go_enter Tryd.func6, Tryd.ntmps6
    go_wp2_with (first
      | (go_at_call 12; (with_reducible refine (awake01 W hE.out).mono ?_); rintro r wn ⟨rfl, h⟩; have k := hide h; clear h)
      | (go_at_call 24; (with_reducible refine (Pow_0 a ha _).mono ?_); rintro r wn ⟨rfl, h⟩; replace k := hide (k.out.trans h); clear h)
      | (go_at_call 24; (with_reducible refine (Pow_1 a ha _).mono ?_); rintro r wn ⟨rfl, h⟩; replace k := hide (k.out.trans h); clear h)
      | (go_at_call 24; (with_reducible refine (Pow_ones n (by omega) _).mono ?_); rintro r wn ⟨rfl, h⟩; replace k := hide (k.out.trans h); clear h)
      | (go_at_call 24; (with_reducible refine (Pow_val a x n hx.out ha (by omega) _).mono ?_); rintro r wn ⟨rfl, h⟩; replace k := hide (k.out.trans h); clear h)
      | (go_at_call 24; (with_reducible refine (Pow_val b y n hy.out hb (by omega) _).mono ?_); rintro r wn ⟨rfl, h⟩; replace k := hide (k.out.trans h); clear h)
      | (go_at_call 24; (with_reducible refine (Pow_val a z (n + 1) hz.out ha (by omega) _).mono ?_); rintro r wn ⟨rfl, h⟩; replace k := hide (k.out.trans h); clear h))
    go_ret
    exact ⟨rfl, k.out.holds⟩
end Go.Proofs.YtfdeafiidaepgaaDoor
