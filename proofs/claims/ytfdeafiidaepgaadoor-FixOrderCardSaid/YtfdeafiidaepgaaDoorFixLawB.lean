/- The law FixOrder: its walk. -/
import Derived.Test.YtfdeafiidaepgaaDoorFixLawA
namespace Go.Proofs.YtfdeafiidaepgaaDoor
open Go Go.RowKit Go.Shelf Go.Proofs.Mul64

set_option maxRecDepth 100000 in
set_option maxHeartbeats 8000000 in
theorem walk_FixOrder (a b c : Nat) (ha : a < 18446744073709551616) (hb : b < 18446744073709551616) (hc : c < 18446744073709551616) (W : World) (hE : Env W) :
    Calls Tryd.prog 5 #[.int .u64 a, .int .u64 b, .int .u64 c] W fun e w' => e = .returned (.bool true) ∧ Holds W w' [] := by
  have hE := hide hE
  have q1 : b ≤ 4611686018427387904 → fmul a b ≤ a := fmul_le a b ha
  have q2 : b ≤ c → fmul a b ≤ fmul a c := fmul_mono (Nat.le_refl _)
  have q3 : b ≤ c → ffall c ≤ ffall b := ffall_anti
  have q4 := ffall_le a
  have q5 := fsub_fadd_le a b
  have q6 := fover_fmul a b ha
  obtain ⟨m, hm⟩ : ∃ m, fmul a b = m := ⟨_, rfl⟩
  obtain ⟨n, hn⟩ : ∃ n, fmul a c = n := ⟨_, rfl⟩
  obtain ⟨fa, hfa⟩ : ∃ fa, ffall a = fa := ⟨_, rfl⟩
  obtain ⟨fb, hfb⟩ : ∃ fb, ffall b = fb := ⟨_, rfl⟩
  obtain ⟨fc, hfc⟩ : ∃ fc, ffall c = fc := ⟨_, rfl⟩
  obtain ⟨s, hs⟩ : ∃ s, fadd a b = s := ⟨_, rfl⟩
  have hsl : s < 18446744073709551616 := by rw [← hs]; exact fadd_lt _ _
  rw [hs] at q5
  obtain ⟨d, hd⟩ : ∃ d, fsub s b = d := ⟨_, rfl⟩
  obtain ⟨q, hq⟩ : ∃ q, fover a b = q := ⟨_, rfl⟩
  have hql : q < 18446744073709551616 := by rw [← hq]; exact fover_lt _ _
  rw [hq] at q6
  obtain ⟨p, hp⟩ : ∃ p, fmul q b = p := ⟨_, rfl⟩
  have hm2 : fmul b a = m := by rw [fmul_comm]; exact hm
  rw [hm] at q1 q2
  rw [hn] at q2
  rw [hfb, hfc] at q3
  rw [hfa] at q4
  rw [hd] at q5
  rw [hp] at q6
  have hm := hide hm
  have hm2 := hide hm2
  have hn := hide hn
  have hfa := hide hfa
  have hfb := hide hfb
  have hfc := hide hfc
  have hs := hide hs
  have hd := hide hd
  have hq := hide hq
  have hp := hide hp
  have q1 := hide q1
  have q2 := hide q2
  have q3 := hide q3
  have q4' : (fa : Int) ≤ 4611686018427387904 := by omega
  have q5' : (d : Int) ≤ a := by omega
  have q6' : (p : Int) ≤ a := by omega
  clear q4 q5 q6
  rcases Nat.eq_zero_or_pos b with rfl | h0
  · have e3 := q3.out (by omega)
    obtain rfl : fb = 4611686018427387904 := hfb.out.symm.trans (by decide +kernel)
    have e2' : (0 : Int) ≤ n := by omega
    have e3' : (fc : Int) ≤ 4611686018427387904 := by omega
    have hc0 : (0 : Int) ≤ c := by omega
    have ha0 : (0 : Int) ≤ a := by omega
    clear e3
    go_enter Tryd.func5, Tryd.ntmps5
    go_wp2_with (first
      | (go_at_call 12; (with_reducible refine (awake01 W hE.out).mono ?_); rintro r wn ⟨rfl, h⟩; have k := hide h; clear h)
      | (go_at_call 21; (with_reducible refine (Mul_0 a ha _).mono ?_); rintro r wn ⟨rfl, h⟩; replace k := hide (k.out.trans h); clear h)
      | (go_at_call 21; (with_reducible refine (Zero_Mul a ha _).mono ?_); rintro r wn ⟨rfl, h⟩; replace k := hide (k.out.trans h); clear h)
      | (go_at_call 21; (with_reducible refine (Mul_1 a ha _).mono ?_); rintro r wn ⟨rfl, h⟩; replace k := hide (k.out.trans h); clear h)
      | (go_at_call 21; (with_reducible refine (Mul_val a c n hn.out ha hc _).mono ?_); rintro r wn ⟨rfl, h⟩; replace k := hide (k.out.trans h); clear h)
      | (go_at_call 30; (with_reducible refine (aw_Fall _).mono ?_); rintro r wn ⟨rfl, h⟩; replace k := hide (k.out.trans h); clear h)
      | (go_at_call 30; (with_reducible refine (Fall_val c fc hfc.out hc _).mono ?_); rintro r wn ⟨rfl, h⟩; replace k := hide (k.out.trans h); clear h)
      | (go_at_call 30; (with_reducible refine (Fall_val a fa hfa.out ha _).mono ?_); rintro r wn ⟨rfl, h⟩; replace k := hide (k.out.trans h); clear h)
      | (go_at_call 17; (with_reducible refine (Add_0 a ha _).mono ?_); rintro r wn ⟨rfl, h⟩; replace k := hide (k.out.trans h); clear h)
      | (go_at_call 19; (with_reducible refine (Sub_0 a ha _).mono ?_); rintro r wn ⟨rfl, h⟩; replace k := hide (k.out.trans h); clear h)
      | (go_at_call 13; (with_reducible refine (Div_none a ha _).mono ?_); rintro r wn ⟨v, rfl, h, he⟩; replace k := hide (k.out.trans h); obtain ⟨bf, ve, rfl, _⟩ := he; clear h))
    go_ret
    exact ⟨rfl, k.out.holds⟩
  · have h0' : ((b : Int) == 0) = false := by rw [beq_eq_false_iff_ne]; omega
    by_cases h1 : b ≤ 4611686018427387904 <;> by_cases h2 : b ≤ c <;> by_cases h3 : q = 18446744073709551615
    all_goals
      first
        | (have e1 := q1.out h1; have e1' : (m : Int) ≤ a := (by omega); have h1' : (b : Int) ≤ 4611686018427387904 := (by omega); clear h1 e1)
        | (have h1' : ¬ (b : Int) ≤ 4611686018427387904 := (by omega); clear h1)
      first
        | (have e2 := q2.out h2; have e3 := q3.out h2; have e2' : (m : Int) ≤ n := (by omega); have e3' : (fc : Int) ≤ fb := (by omega); have h2' : (b : Int) ≤ c := (by omega); clear h2 e2 e3)
        | (have h2' : ¬ (b : Int) ≤ c := (by omega); clear h2)
      first
        | (have h3' : ((q : Int) == 18446744073709551615) = true := (by rw [h3]; rfl))
        | (have h3' : ((q : Int) == 18446744073709551615) = false := by rw [beq_eq_false_iff_ne]; omega)
      have h3 := hide h3
      go_enter Tryd.func5, Tryd.ntmps5
      go_wp2_with (first
        | (go_at_call 12; (with_reducible refine (awake01 W hE.out).mono ?_); rintro r wn ⟨rfl, h⟩; have k := hide h; clear h)
        | (go_at_call 21; (with_reducible refine (Mul_val a b m hm.out ha hb _).mono ?_); rintro r wn ⟨rfl, h⟩; replace k := hide (k.out.trans h); clear h)
        | (go_at_call 21; (with_reducible refine (Mul_val b a m hm2.out hb ha _).mono ?_); rintro r wn ⟨rfl, h⟩; replace k := hide (k.out.trans h); clear h)
        | (go_at_call 21; (with_reducible refine (Mul_1 a ha _).mono ?_); rintro r wn ⟨rfl, h⟩; replace k := hide (k.out.trans h); clear h)
        | (go_at_call 21; (with_reducible refine (Mul_val a c n hn.out ha hc _).mono ?_); rintro r wn ⟨rfl, h⟩; replace k := hide (k.out.trans h); clear h)
        | (go_at_call 30; (with_reducible refine (Fall_val b fb hfb.out hb _).mono ?_); rintro r wn ⟨rfl, h⟩; replace k := hide (k.out.trans h); clear h)
        | (go_at_call 30; (with_reducible refine (Fall_val c fc hfc.out hc _).mono ?_); rintro r wn ⟨rfl, h⟩; replace k := hide (k.out.trans h); clear h)
        | (go_at_call 30; (with_reducible refine (Fall_val a fa hfa.out ha _).mono ?_); rintro r wn ⟨rfl, h⟩; replace k := hide (k.out.trans h); clear h)
        | (go_at_call 17; (with_reducible refine (Add_val a b s hs.out ha hb _).mono ?_); rintro r wn ⟨rfl, h⟩; replace k := hide (k.out.trans h); clear h)
        | (go_at_call 19; (with_reducible refine (Sub_val s b d hd.out hsl hb _).mono ?_); rintro r wn ⟨rfl, h⟩; replace k := hide (k.out.trans h); clear h)
        | (go_at_call 13; (with_reducible refine (Div_val a b q hq.out h0 ha hb _).mono ?_); rintro r wn ⟨rfl, h⟩; replace k := hide (k.out.trans h); clear h)
        | (go_at_call 21; (with_reducible refine (Mul_val q b p hp.out hql hb _).mono ?_); rintro r wn ⟨rfl, h⟩; replace k := hide (k.out.trans h); clear h))
      go_ret
      exact ⟨rfl, k.out.holds⟩
end Go.Proofs.YtfdeafiidaepgaaDoor
