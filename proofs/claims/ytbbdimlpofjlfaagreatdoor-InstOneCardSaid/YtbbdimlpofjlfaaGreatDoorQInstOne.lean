/- The law InstOne. -/
import Derived.Test.YtbbdimlpofjlfaaGreatDoorQLawOne
import Derived.Test.YtbbdimlpofjlfaaGreatDoorQRefs10
namespace Go.Proofs.YtbbdimlpofjlfaaGreatDoor
open Go Go.RowKit

set_option maxRecDepth 100000 in
theorem InstOne_at : LawAt 4 Tryz.f4 := by
  intro W args hE hA
  rw [Tryz.params4] at hA
  obtain ⟨v0, vs0, e0, a0, hA⟩ := args_cons hA
  obtain ⟨v1, vs1, rfl, a1, hA⟩ := args_cons hA
  obtain ⟨v2, vs2, rfl, a2, hA⟩ := args_cons hA
  obtain rfl := args_nil hA
  obtain ⟨x0, rfl, b0⟩ := arg_int Tryz.underlying3 a0
  obtain ⟨lane, hl, hll⟩ := lane_of_arg a1
  obtain ⟨keys, hk⟩ := keys_of_arg a2
  obtain rfl : args = #[.int .i64 x0, v1, v2] := by cases args; simpa using e0
  exact walk_InstOne x0 v1 v2 lane keys W hE hl hll hk
set_option maxRecDepth 100000 in
theorem InstOne_lifted (os : Os) (started : os.Started) (H : Type) (enc : TypeId × Value → H) (F : Stop.Interp) :
    ReturnsInHanded {} Tryz.checked os 4 .any ((OpenSpec.ofChange Rows.instOneSpec).preRow enc Tryz.prog Tryz.f4 Rows.instOneRow.domain false Rows.instOneRow.laid) (((OpenSpec.ofChange Rows.instOneSpec).at F).post enc Tryz.prog Tryz.f4 false true false false) := by
  have hx : DataW.whole enc Tryz.prog ((laidWorld os).forCall (fun _ _ => 0) ⟨#[], #[.int .i64 0, .slice none 0 0, .slice none 0 0], []⟩).memory Tryz.f4.params.toList Rows.instOneSpec.vars false (#[.int .i64 0, .slice none 0 0, .slice none 0 0] : Array Value).toList 16 = some ([.lit (.int .i64 0), .nil, .nil], [], []) := by kernel_rfl
  refine returnsInHanded_of_row (C := Tryz.checked) (s := OpenSpec.ofChange Rows.instOneSpec) own started (by as_aux_lemma => kernel_rfl) Tryz.func4
    (witness_row_at (enc := enc) (C := Tryz.checked) false (laidWorld os) #[.int .i64 0, .slice none 0 0, .slice none 0 0] rfl (by as_aux_lemma => kernel_rfl) (by as_aux_lemma => kernel_rfl) (by as_aux_lemma => kernel_rfl)
      (OpenSpec.preRow_of_cond 16 hx (by as_aux_lemma => kernel_rfl) (fun k hk => by cases hk) (by as_aux_lemma => kernel_rfl) (laidWorld_met os _))) ?_
  intro W base args ds gs before hval hW _ _ _ hL _ _
  exact law_post rfl rfl (by intro H ds h; have h' : ds.length = 3 := h; match ds, h' with | [_, _, _], _ => rfl) (by decide +kernel) InstOne_at (env_of_laid hL) hval hW
set_option maxHeartbeats 4000000 in
theorem InstOne_said : Rows.InstOneSaid :=
  OpenClaim.holds_of_cond 4 Tryz.f4 rfl rfl rfl rfl rfl rfl rfl ⟨rfl, rfl, rfl, rfl, rfl⟩ rfl rfl rfl rfl rfl (by as_aux_lemma => kernel_rfl) Tryz.func4 (by as_aux_lemma => kernel_rfl)
    (of_decide_eq_true (by as_aux_lemma => kernel_rfl)) (by unfold Func.isWrapper; first | (rw [if_pos (by decide +kernel)]; as_aux_lemma => kernel_rfl) | (rw [if_neg (by decide +kernel)]; exact ⟨rfl, rfl⟩))
    (fun os started H enc _ F => by rw [OpenClaim.pre_eq_preRow]; exact InstOne_lifted os started H enc F)
theorem InstOne_plain (f : FuncId) (fn : Func) (hf : Tryz.pinned.checked.prog.funcNamed "cachewise/cachewiselaw11.InstOne" = some f) (hfn : Tryz.pinned.checked.prog.funcs[f]? = some fn) :
    true = Tryz.pinned.checked.prog.looks [] ∧ ∀ (j : Nat) t, fn.params[j]? = some t → Tryz.pinned.checked.prog.wantsStandIn t = false := by
  obtain rfl : f = 4 := Option.some.inj ((show Tryz.prog.funcNamed "cachewise/cachewiselaw11.InstOne" = some 4 by kernel_rfl).symm.trans hf) |>.symm
  obtain rfl : fn = Tryz.f4 := (Option.some.inj (Tryz.func4.symm.trans hfn)).symm
  refine ⟨by kernel_rfl, fun j t ht => ?_⟩
  have hall : ∀ t, t ∈ Tryz.f4.params.toList → Tryz.prog.wantsStandIn t = false := by decide +kernel
  exact hall t (by simpa using Array.mem_of_getElem? ht)
theorem InstOne_card : Rows.InstOneCardSaid :=
  Claim7.holds_tied_plain_at .later [] _ _ _ _ InstOne_said (fun _ h => by cases h) (by as_aux_lemma => kernel_rfl) (fun _ h => by cases h) instOne_row_tie rfl ⟨rfl, rfl⟩ (by as_aux_lemma => kernel_rfl) rfl InstOne_plain (by as_aux_lemma => kernel_rfl)
end Go.Proofs.YtbbdimlpofjlfaaGreatDoor
