/- cachewiseref01: Add, Sub, Mul. -/
import Derived.Test.YtfdeafiidaepgaaDoorFixWhole
namespace Go.Proofs.YtfdeafiidaepgaaDoor
open Go Go.RowKit Go.Shelf Go.Proofs.Mul64

theorem Ref_plus0 (sa sb : Value) (la lb : List Nat) (w : World) (ha : RowAt w sa (bv la)) (hb : RowAt w sb (bv lb)) (hba : Bits la) (hbb : Bits lb) (hla : la.length ≤ 1000000) (hlb : lb.length ≤ 1000000) :
    Calls Tryd.prog 39 #[sa, sb, .int .i64 0] w fun r w' => ∃ s l, r = .returned s ∧ RowAt w' s (bv l) ∧ val l = val la + 2 ^ 0 * val lb ∧ Bits l ∧ l.length = la.length + lb.length + 0 + 1 ∧ Keep w w' := Ref_plus sa sb la lb 0 w ha hb hba hbb hla hlb (by omega)
theorem Ref_Add (a b : Nat) (ha : a < 18446744073709551616) (hb : b < 18446744073709551616) (w : World) :
    Calls Tryd.prog 18 #[.int .u64 a, .int .u64 b] w fun r w' => r = .returned (.int .u64 (fadd a b : Nat)) ∧ Keep w w' := by
  obtain ⟨T, hT⟩ : ∃ T, fadd a b = T := ⟨_, rfl⟩
  rw [hT]
  have hT := hide hT
  go_enter Tryd.func18, Tryd.ntmps18
  go_wp2_with (first
    | (go_at_call 40; (with_reducible refine (Ref_row a ha _).mono ?_); rintro r w1 ⟨sa, la, rfl, h1, h2, h3, h4, h5⟩; have ra := hide h1; have va := hide h2; have ba := hide h3; have na := hide h4; have k1 := hide h5; clear h1 h2 h3 h4 h5)
    | (go_at_call 40; (with_reducible refine (Ref_row b hb _).mono ?_); rintro r w2 ⟨sb, lb, rfl, h1, h2, h3, h4, h5⟩; have rb := hide h1; have vb := hide h2; have bb := hide h3; have nb := hide h4; have k2 := hide h5; clear h1 h2 h3 h4 h5)
    | (go_at_call 39; (with_reducible refine (Ref_plus0 sa sb la lb _ (ra.out.keep k2.out) rb.out ba.out bb.out (Nat.le_trans na.out (by decide)) (Nat.le_trans nb.out (by decide))).mono ?_); rintro r w3 ⟨sc, lc, rfl, h1, h2, h3, h4, h5⟩; have rc := hide h1; have vc := hide h2; have bc := hide h3; have nc := hide h4; have k3 := hide h5; clear h1 h2 h3 h4 h5)
    | (go_at_call 38; (with_reducible refine (Ref_whole sc lc bc.out (by have := na.out; have := nb.out; have := nc.out; omega) _ rc.out).mono ?_); rintro r w4 ⟨rfl, h5⟩; have k4 := hide h5; clear h5))
  go_ret
  refine ⟨?_, ((k1.out.trans k2.out).trans k3.out).trans k4.out⟩
  rw [← hT.out, vc.out, va.out, vb.out, Nat.pow_zero, Nat.one_mul]
  rfl
theorem Ref_Sub (a b : Nat) (ha : a < 18446744073709551616) (hb : b < 18446744073709551616) (w : World) :
    Calls Tryd.prog 20 #[.int .u64 a, .int .u64 b] w fun r w' => r = .returned (.int .u64 (fsub a b : Nat)) ∧ Keep w w' := by
  unfold fsub
  go_enter Tryd.func20, Tryd.ntmps20
  by_cases h : a < b
  · have e : a - b = 0 := by omega
    rw [e]
    go_wp2
    go_ret
    exact ⟨rfl, Keep.refl _⟩
  · have e : ((a - b : Nat) : Int) = (a : Int) - b := by omega
    rw [e]
    go_wp2
    go_ret
    exact ⟨rfl, Keep.refl _⟩
end Go.Proofs.YtfdeafiidaepgaaDoor
