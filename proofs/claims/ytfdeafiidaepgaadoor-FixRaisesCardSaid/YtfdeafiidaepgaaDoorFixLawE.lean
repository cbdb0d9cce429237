/- The laws FixWholes, FixRaises: their walks. -/
import Derived.Test.YtfdeafiidaepgaaDoorFixLawA
import Derived.Test.YtfdeafiidaepgaaDoorQuiet
namespace Go.Proofs.YtfdeafiidaepgaaDoor
open Go Go.RowKit Go.Shelf Go.Proofs.Mul64

set_option maxRecDepth 100000 in
set_option maxHeartbeats 8000000 in
theorem walk_FixRaises (a b : Nat) (ha : a < 18446744073709551616) (hb : b < 18446744073709551616) (W : World) (hE : Env W) :
    Calls Tryd.prog 10 #[.int .u64 a, .int .u64 b] W fun e w' => e = .returned (.bool true) ∧ Holds W w' [] := by
  have hE := hide hE
  have q1 := fexp_ge a ha
  have q2 : a ≤ b → fexp a ≤ fexp b := fexp_mono
  have q3 := fexp_ffall a
  have q4 := ffall_pos a
  have xl := fexp_lt a
  have fl := ffall_le a
  obtain ⟨x, hx⟩ : ∃ x, fexp a = x := ⟨_, rfl⟩
  obtain ⟨y, hy⟩ : ∃ y, fexp b = y := ⟨_, rfl⟩
  obtain ⟨f, hf⟩ : ∃ f, ffall a = f := ⟨_, rfl⟩
  obtain ⟨s, hs⟩ : ∃ s, fadd 4611686018427387904 a = s := ⟨_, rfl⟩
  rw [hx] at q1 q2 q3 xl
  rw [hy] at q2
  rw [hf] at q3 q4 fl
  rw [hs] at q1
  obtain ⟨p, hp⟩ : ∃ p, fmul x f = p := ⟨_, rfl⟩
  rw [hp] at q3
  have hx := hide hx
  have hy := hide hy
  have hf := hide hf
  have hs := hide hs
  have hp := hide hp
  have q2 := hide q2
  have q1' : (s : Int) ≤ x := by omega
  have q3' : (p : Int) ≤ 4611686018427387904 := by omega
  have q4' : (0 : Int) < f := by omega
  by_cases h1 : a ≤ b <;> by_cases h2 : x = 18446744073709551615
  all_goals
    first
      | (have e1 := q2.out h1; have e1' : (x : Int) ≤ y := (by omega); have h1' : (a : Int) ≤ b := (by omega); clear h1 e1)
      | (have h1' : (b : Int) < a := (by omega); clear h1)
    first
      | (have h2' : ((x : Int) == 18446744073709551615) = true := (by rw [h2]; rfl))
      | (have h2' : ((x : Int) == 18446744073709551615) = false := (by rw [beq_eq_false_iff_ne]; omega))
    have h2 := hide h2
    clear q1 q3 q4
    go_enter Tryd.func10, Tryd.ntmps10
    go_wp2_with (first
      | (go_at_call 12; (with_reducible refine (awake01 W hE.out).mono ?_); rintro r wn ⟨rfl, h⟩; have k := hide h; clear h)
      | (go_at_call 28; (with_reducible refine (Exp_val a x hx.out ha _).mono ?_); rintro r wn ⟨rfl, h⟩; replace k := hide (k.out.trans h); clear h)
      | (go_at_call 28; (with_reducible refine (Exp_val b y hy.out hb _).mono ?_); rintro r wn ⟨rfl, h⟩; replace k := hide (k.out.trans h); clear h)
      | (go_at_call 17; (with_reducible refine (One_Add a s hs.out ha _).mono ?_); rintro r wn ⟨rfl, h⟩; replace k := hide (k.out.trans h); clear h)
      | (go_at_call 30; (with_reducible refine (Fall_val a f hf.out ha _).mono ?_); rintro r wn ⟨rfl, h⟩; replace k := hide (k.out.trans h); clear h)
      | (go_at_call 21; (with_reducible refine (Mul_val x f p hp.out xl (by omega) _).mono ?_); rintro r wn ⟨rfl, h⟩; replace k := hide (k.out.trans h); clear h))
    go_ret
    refine ⟨?_, k.out.holds⟩
    have h2 := h2.out
    first | rfl | (simp; omega)
set_option maxRecDepth 100000 in
set_option maxHeartbeats 8000000 in
theorem walk_FixWholes_out (a b c : Int) (h : a < 0 ∨ b < 1 ∨ c < b ∨ 1099511627776 < a ∨ 1099511627776 < c) (W : World) (hE : Env W) :
    Calls Tryd.prog 9 #[.int .i64 a, .int .i64 b, .int .i64 c] W fun e w' => e = .returned (.bool true) ∧ Holds W w' [] := by
  have hE := hide hE
  have hc : a < 0 ∨ (0 ≤ a ∧ b < 1) ∨ (0 ≤ a ∧ 1 ≤ b ∧ c < b) ∨ (0 ≤ a ∧ 1 ≤ b ∧ b ≤ c ∧ 1099511627776 < a) ∨ (0 ≤ a ∧ 1 ≤ b ∧ b ≤ c ∧ a ≤ 1099511627776 ∧ 1099511627776 < c) := by omega
  clear h
  rcases hc with h | ⟨h1, h2⟩ | ⟨h1, h2, h3⟩ | ⟨h1, h2, h3, h4⟩ | ⟨h1, h2, h3, h4, h5⟩
  all_goals
    go_enter Tryd.func9, Tryd.ntmps9
    go_wp2_with (go_at_call 12; (with_reducible refine (awake01 W hE.out).mono ?_); rintro r wn ⟨rfl, h⟩; have k := hide h; clear h)
    go_ret
    exact ⟨rfl, k.out.holds⟩
theorem wrapI (a : Int) (h : -9223372036854775808 ≤ a ∧ a ≤ 9223372036854775807) : IntKind.i64.wrap a = a := IntWalk.i64_in _ (by omega)
set_option maxRecDepth 100000 in
set_option maxHeartbeats 8000000 in
theorem walk_FixWholes_in (a b c : Nat) (h1 : 1 ≤ b) (h2 : b ≤ c) (h3 : a ≤ 1099511627776) (h4 : c ≤ 1099511627776) (W : World) (hE : Env W) :
    Calls Tryd.prog 9 #[.int .i64 a, .int .i64 b, .int .i64 c] W fun e w' => e = .returned (.bool true) ∧ Holds W w' [] := by
  have hE := hide hE
  have q1 := fover_double a b
  have q2 : fover a c ≤ fover a b := fover_mono (Nat.le_refl _) h2 (by omega)
  have q3 : fover a b ≤ fover (a + 1) b := fover_mono (by omega) (Nat.le_refl _) (by omega)
  have q4 := fover_one a
  have q5 : a = b → fover a b = 4611686018427387904 := fun h => by subst h; exact fover_self _ (by omega)
  obtain ⟨x, hx⟩ : ∃ x, fover a b = x := ⟨_, rfl⟩
  obtain ⟨z, hz⟩ : ∃ z, fover a c = z := ⟨_, rfl⟩
  obtain ⟨u, hu⟩ : ∃ u, fover (a + 1) b = u := ⟨_, rfl⟩
  rw [hx] at q1 q2 q3 q5
  rw [hz] at q2
  rw [hu] at q3
  have hx := hide hx
  have hz := hide hz
  have hu := hide hu
  have q1 := hide q1
  have q4 := hide q4
  have q2' : (z : Int) ≤ x := by omega
  have q3' : (x : Int) ≤ u := by omega
  have b1 : (1 : Int) ≤ b := by omega
  have b2 : (b : Int) ≤ c := by omega
  have b3 : (a : Int) ≤ 1099511627776 := by omega
  have b4 : (c : Int) ≤ 1099511627776 := by omega
  have b0 : (0 : Int) ≤ a := by omega
  have i1 : IntKind.i64.wrap (2 * (a : Int)) = ((2 * a : Nat) : Int) := by rw [show 2 * (a : Int) = ((2 * a : Nat) : Int) by omega]; exact wrapI _ (by omega)
  have i2 : IntKind.i64.wrap (2 * (b : Int)) = ((2 * b : Nat) : Int) := by rw [show 2 * (b : Int) = ((2 * b : Nat) : Int) by omega]; exact wrapI _ (by omega)
  have i3 : IntKind.i64.wrap ((a : Int) + 1) = ((a + 1 : Nat) : Int) := by rw [show (a : Int) + 1 = ((a + 1 : Nat) : Int) by omega]; exact wrapI _ (by omega)
  have j1 : 2 * (a : Int) = ((2 * a : Nat) : Int) := by omega
  have j2 : 2 * (b : Int) = ((2 * b : Nat) : Int) := by omega
  have j3 : (a : Int) + 1 = ((a + 1 : Nat) : Int) := by omega
  obtain ⟨a2, ha2⟩ : ∃ a2, 2 * a = a2 := ⟨_, rfl⟩
  obtain ⟨b2', hb2⟩ : ∃ b2', 2 * b = b2' := ⟨_, rfl⟩
  obtain ⟨a1, ha1⟩ : ∃ a1, a + 1 = a1 := ⟨_, rfl⟩
  rw [ha2] at i1 j1
  rw [hb2] at i2 j2
  rw [ha1] at i3 j3
  have hu' : Hide (fover a1 b = u) := ⟨by rw [← ha1]; exact hu.out⟩
  have hx2 : Hide (fover a2 b2' = x) := ⟨by rw [← ha2, ← hb2]; exact q1.out⟩
  have la2 : a2 < 9223372036854775808 := by omega
  have lb2 : 0 < b2' ∧ b2' < 9223372036854775808 := by omega
  have la1 : a1 < 9223372036854775808 := by omega
  have la : a < 9223372036854775808 := by omega
  have lb : b < 9223372036854775808 := by omega
  have lc : c < 9223372036854775808 := by omega
  have lc0 : 0 < c := by omega
  have hla2 := hide la2
  have hlb2 := hide lb2
  have hla1 := hide la1
  have hla := hide la
  have hlb := hide lb
  have hlc := hide lc
  have hlc0 := hide lc0
  have h1 : Hide (0 < b) := ⟨h1⟩
  have ha4 : a < 4 → IntKind.u64.wrap ((a : Int) * 4611686018427387904) = ((a * 4611686018427387904 : Nat) : Int) := fun h => by rw [IntKind.wrap_u64]; omega
  have ha0 : IntKind.u64.wrap (a : Int) = (a : Int) := by rw [IntKind.wrap_u64]; omega
  have hab2 : Hide (a = b → a2 = b2') := ⟨fun h => by omega⟩
  clear ha2 hb2 ha1 q2 q3 la2 lb2 la1 la lb lc lc0 h2
  have q5 := hide q5
  obtain ⟨wv, hwv⟩ : ∃ wv, fover a 1 = wv := ⟨_, rfl⟩
  have hwv := hide hwv
  by_cases h5 : a < 4
  · have i4 := ha4 h5
    have h5' : (a : Int) < 4 := by omega
    have q6 : a * 4611686018427387904 = wv := by rw [← hwv.out, q4.out, if_pos h5]
    rw [q6] at i4
    clear ha4 h5 q6
    by_cases h6 : a = b
    · obtain rfl := q5.out h6
      obtain rfl := hab2.out h6
      subst h6
      go_enter Tryd.func9, Tryd.ntmps9
      go_wp2_with (first
        | (go_at_call 12; (with_reducible refine (awake01 W hE.out).mono ?_); rintro r wn ⟨rfl, h⟩; have k := hide h; clear h)
        | (go_at_call 15; (with_reducible refine (Whole_val a a 4611686018427387904 hx.out h1.out hla.out hlb.out _).mono ?_); rintro r wn ⟨rfl, h⟩; replace k := hide (k.out.trans h); clear h)
        | (go_at_call 15; (with_reducible refine (Whole_val a2 a2 4611686018427387904 hx2.out hlb2.out.1 hla2.out hlb2.out.2 _).mono ?_); rintro r wn ⟨rfl, h⟩; replace k := hide (k.out.trans h); clear h)
        | (go_at_call 15; (with_reducible refine (Whole_val a c z hz.out hlc0.out hla.out hlc.out _).mono ?_); rintro r wn ⟨rfl, h⟩; replace k := hide (k.out.trans h); clear h)
        | (go_at_call 15; (with_reducible refine (Whole_val a1 a u hu'.out h1.out hla1.out hlb.out _).mono ?_); rintro r wn ⟨rfl, h⟩; replace k := hide (k.out.trans h); clear h)
        | (go_at_call 15; (with_reducible refine (Whole_1 a wv hwv.out hla.out _).mono ?_); rintro r wn ⟨rfl, h⟩; replace k := hide (k.out.trans h); clear h))
      all_goals
        first
          | (go_ret; refine ⟨?_, k.out.holds⟩; first | rfl | (simp; omega))
          | (exfalso; simp at *; omega)
    · have h6' : ((a : Int) == (b : Int)) = false := by rw [beq_eq_false_iff_ne]; omega
      clear h6
      go_enter Tryd.func9, Tryd.ntmps9
      go_wp2_with (first
        | (go_at_call 12; (with_reducible refine (awake01 W hE.out).mono ?_); rintro r wn ⟨rfl, h⟩; have k := hide h; clear h)
        | (go_at_call 15; (with_reducible refine (Whole_val a b x hx.out h1.out hla.out hlb.out _).mono ?_); rintro r wn ⟨rfl, h⟩; replace k := hide (k.out.trans h); clear h)
        | (go_at_call 15; (with_reducible refine (Whole_val a2 b2' x hx2.out hlb2.out.1 hla2.out hlb2.out.2 _).mono ?_); rintro r wn ⟨rfl, h⟩; replace k := hide (k.out.trans h); clear h)
        | (go_at_call 15; (with_reducible refine (Whole_val a c z hz.out hlc0.out hla.out hlc.out _).mono ?_); rintro r wn ⟨rfl, h⟩; replace k := hide (k.out.trans h); clear h)
        | (go_at_call 15; (with_reducible refine (Whole_val a1 b u hu'.out h1.out hla1.out hlb.out _).mono ?_); rintro r wn ⟨rfl, h⟩; replace k := hide (k.out.trans h); clear h)
        | (go_at_call 15; (with_reducible refine (Whole_1 a wv hwv.out hla.out _).mono ?_); rintro r wn ⟨rfl, h⟩; replace k := hide (k.out.trans h); clear h))
      all_goals
        first
          | (go_ret; refine ⟨?_, k.out.holds⟩; first | rfl | (simp; omega))
          | (exfalso; simp at *; omega)
  · have h5' : ¬ (a : Int) < 4 := by omega
    obtain rfl : wv = 18446744073709551615 := by rw [← hwv.out, q4.out, if_neg h5]
    clear ha4 h5
    by_cases h6 : a = b
    · obtain rfl := q5.out h6
      obtain rfl := hab2.out h6
      subst h6
      go_enter Tryd.func9, Tryd.ntmps9
      go_wp2_with (first
        | (go_at_call 12; (with_reducible refine (awake01 W hE.out).mono ?_); rintro r wn ⟨rfl, h⟩; have k := hide h; clear h)
        | (go_at_call 15; (with_reducible refine (Whole_val a a 4611686018427387904 hx.out h1.out hla.out hlb.out _).mono ?_); rintro r wn ⟨rfl, h⟩; replace k := hide (k.out.trans h); clear h)
        | (go_at_call 15; (with_reducible refine (Whole_val a2 a2 4611686018427387904 hx2.out hlb2.out.1 hla2.out hlb2.out.2 _).mono ?_); rintro r wn ⟨rfl, h⟩; replace k := hide (k.out.trans h); clear h)
        | (go_at_call 15; (with_reducible refine (Whole_val a c z hz.out hlc0.out hla.out hlc.out _).mono ?_); rintro r wn ⟨rfl, h⟩; replace k := hide (k.out.trans h); clear h)
        | (go_at_call 15; (with_reducible refine (Whole_val a1 a u hu'.out h1.out hla1.out hlb.out _).mono ?_); rintro r wn ⟨rfl, h⟩; replace k := hide (k.out.trans h); clear h)
        | (go_at_call 15; (with_reducible refine (Whole_1 a 18446744073709551615 hwv.out hla.out _).mono ?_); rintro r wn ⟨rfl, h⟩; replace k := hide (k.out.trans h); clear h))
      all_goals
        first
          | (go_ret; refine ⟨?_, k.out.holds⟩; first | rfl | (simp; omega))
          | (exfalso; simp at *; omega)
    · have h6' : ((a : Int) == (b : Int)) = false := by rw [beq_eq_false_iff_ne]; omega
      clear h6
      go_enter Tryd.func9, Tryd.ntmps9
      go_wp2_with (first
        | (go_at_call 12; (with_reducible refine (awake01 W hE.out).mono ?_); rintro r wn ⟨rfl, h⟩; have k := hide h; clear h)
        | (go_at_call 15; (with_reducible refine (Whole_val a b x hx.out h1.out hla.out hlb.out _).mono ?_); rintro r wn ⟨rfl, h⟩; replace k := hide (k.out.trans h); clear h)
        | (go_at_call 15; (with_reducible refine (Whole_val a2 b2' x hx2.out hlb2.out.1 hla2.out hlb2.out.2 _).mono ?_); rintro r wn ⟨rfl, h⟩; replace k := hide (k.out.trans h); clear h)
        | (go_at_call 15; (with_reducible refine (Whole_val a c z hz.out hlc0.out hla.out hlc.out _).mono ?_); rintro r wn ⟨rfl, h⟩; replace k := hide (k.out.trans h); clear h)
        | (go_at_call 15; (with_reducible refine (Whole_val a1 b u hu'.out h1.out hla1.out hlb.out _).mono ?_); rintro r wn ⟨rfl, h⟩; replace k := hide (k.out.trans h); clear h)
        | (go_at_call 15; (with_reducible refine (Whole_1 a 18446744073709551615 hwv.out hla.out _).mono ?_); rintro r wn ⟨rfl, h⟩; replace k := hide (k.out.trans h); clear h))
      all_goals
        first
          | (go_ret; refine ⟨?_, k.out.holds⟩; first | rfl | (simp; omega))
          | (exfalso; simp at *; omega)
end Go.Proofs.YtfdeafiidaepgaaDoor
