/- The law FixPowers: its card. -/
import Derived.Test.YtfdeafiidaepgaaDoorLift
import Derived.Test.YtfdeafiidaepgaaDoorFixLawA
namespace Go.Proofs.YtfdeafiidaepgaaDoor
open Go Go.RowKit Go.ChangeShapes Go.WideShapes Go.ChangeAt

theorem FixPowers_at : LawAt 6 Tryd.f6 := by
  intro W args hE hA
  rw [Tryd.params6] at hA
  obtain ⟨v0, vs0, e0, a0, hA⟩ := args_cons hA
  obtain ⟨v1, vs1, rfl, a1, hA⟩ := args_cons hA
  obtain ⟨v2, vs2, rfl, a2, hA⟩ := args_cons hA
  obtain rfl := args_nil hA
  obtain ⟨a', ea, ba⟩ := arg_int Tryd.underlying23 a0
  have ba := u64_bounds ba
  obtain ⟨a, rfl⟩ : ∃ a : Nat, a' = a := ⟨Int.toNat a', by omega⟩
  subst ea
  obtain ⟨b', eb, bb⟩ := arg_int Tryd.underlying23 a1
  have bb := u64_bounds bb
  obtain ⟨b, rfl⟩ : ∃ b : Nat, b' = b := ⟨Int.toNat b', by omega⟩
  subst eb
  obtain ⟨c, ec, bc⟩ := arg_int Tryd.underlying3 a2
  have bc := i64_bounds bc
  subst ec
  obtain rfl : args = #[.int .u64 a, .int .u64 b, .int .i64 c] := by cases args; simpa using e0
  by_cases h : c < 0 ∨ 1099511627776 < c
  · exact walk_FixPowers_out a b c h W hE
  · exact walk_FixPowers_in a b c (by omega) (by omega) (by omega) (by omega) W hE
set_option maxRecDepth 100000 in
theorem FixPowers_lifted (os : Os) (started : os.Started) (H : Type) (enc : TypeId × Value → H) (F : Stop.Interp) :
    ReturnsInHanded {} Tryd.checked os 6 .any ((OpenSpec.ofChange Rows.fixPowersSpec).preRow enc Tryd.prog Tryd.f6 Rows.fixPowersRow.domain false Rows.fixPowersRow.laid) (((OpenSpec.ofChange Rows.fixPowersSpec).at F).post enc Tryd.prog Tryd.f6 false true false false) := by
  have hx : DataW.whole enc Tryd.prog ((laidWorld os).forCall (fun _ _ => 0) ⟨#[], #[.int .u64 0, .int .u64 0, .int .i64 0], []⟩).memory Tryd.f6.params.toList Rows.fixPowersSpec.vars false (#[.int .u64 0, .int .u64 0, .int .i64 0] : Array Value).toList 16 = some ([.lit (.int .u64 0), .lit (.int .u64 0), .lit (.int .i64 0)], [], []) := by kernel_rfl
  refine returnsInHanded_of_row (C := Tryd.checked) (s := OpenSpec.ofChange Rows.fixPowersSpec) own started (by kernel_rfl) Tryd.func6
    (witness_row_at (enc := enc) (C := Tryd.checked) false (laidWorld os) #[.int .u64 0, .int .u64 0, .int .i64 0] rfl (by kernel_rfl) (by kernel_rfl) (by kernel_rfl)
      (OpenSpec.preRow_of_cond 16 hx (by kernel_rfl) (fun k hk => by cases hk) (by kernel_rfl) (laidWorld_met os _))) ?_
  intro W base args ds gs before hval hW _ _ _ hL _ _
  exact law_post rfl rfl (by intro H ds h; have h' : ds.length = 3 := h; match ds, h' with | [_, _, _], _ => rfl) (by decide +kernel) FixPowers_at (env_of_laid hL) hval hW
theorem FixPowers_said : Rows.FixPowersSaid :=
  OpenClaim.holds_of_cond 6 Tryd.f6 rfl rfl rfl rfl rfl rfl rfl ⟨rfl, rfl, rfl, rfl, rfl⟩ rfl rfl rfl rfl rfl (by kernel_rfl) Tryd.func6 (by kernel_rfl)
    (of_decide_eq_true (by kernel_rfl)) (by unfold Func.isWrapper; first | (rw [if_pos (by decide +kernel)]; kernel_rfl) | (rw [if_neg (by decide +kernel)]; exact ⟨rfl, rfl⟩))
    (fun os started H enc _ F => by rw [OpenClaim.pre_eq_preRow]; exact FixPowers_lifted os started H enc F)
theorem FixPowers_plain (f : FuncId) (fn : Func) (hf : Tryd.pinned.checked.prog.funcNamed "cachewise/cachewiselaw01.FixPowers" = some f) (hfn : Tryd.pinned.checked.prog.funcs[f]? = some fn) :
    true = Tryd.pinned.checked.prog.looks [] ∧ ∀ (j : Nat) t, fn.params[j]? = some t → Tryd.pinned.checked.prog.wantsStandIn t = false := by
  obtain rfl : f = 6 := Option.some.inj ((show Tryd.prog.funcNamed "cachewise/cachewiselaw01.FixPowers" = some 6 by kernel_rfl).symm.trans hf) |>.symm
  obtain rfl : fn = Tryd.f6 := (Option.some.inj (Tryd.func6.symm.trans hfn)).symm
  refine ⟨by kernel_rfl, fun j t ht => ?_⟩
  have hall : ∀ t, t ∈ Tryd.f6.params.toList → Tryd.prog.wantsStandIn t = false := by decide +kernel
  exact hall t (by simpa using Array.mem_of_getElem? ht)
theorem FixPowers_card : Rows.FixPowersCardSaid :=
  Claim7.holds_tied_plain_at .later [] _ _ _ _ FixPowers_said (fun _ h => by cases h) (by kernel_rfl) (fun _ h => by cases h) fixPowers_row_tie rfl ⟨rfl, rfl⟩ (by kernel_rfl) rfl FixPowers_plain (by kernel_rfl)
end Go.Proofs.YtfdeafiidaepgaaDoor
