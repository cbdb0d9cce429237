/- The law InstDrains. -/
import Derived.Test.YtbbdimlpofjlfaaGreatDoorQLawDrains
import Derived.Test.YtbbdimlpofjlfaaGreatDoorQRefs10
namespace Go.Proofs.YtbbdimlpofjlfaaGreatDoor
open Go Go.RowKit

set_option maxRecDepth 100000 in
theorem InstDrains_at : LawAt 8 Tryz.f8 := by
  intro W args hE hA
  rw [Tryz.params8] at hA
  obtain ⟨v0, vs0, e0, a0, hA⟩ := args_cons hA
  obtain ⟨v1, vs1, rfl, a1, hA⟩ := args_cons hA
  obtain ⟨v2, vs2, rfl, a2, hA⟩ := args_cons hA
  obtain ⟨v3, vs3, rfl, a3, hA⟩ := args_cons hA
  obtain rfl := args_nil hA
  obtain ⟨x0, rfl, b0⟩ := arg_int Tryz.underlying3 a0
  obtain ⟨x1, rfl, b1⟩ := arg_int Tryz.underlying3 a1
  obtain ⟨lane, hl, hll⟩ := lane_of_arg a2
  obtain ⟨keys, hk⟩ := keys_of_arg a3
  obtain rfl : args = #[.int .i64 x0, .int .i64 x1, v2, v3] := by cases args; simpa using e0
  exact walk_InstDrains x0 x1 v2 v3 lane keys W hE hl hll hk
set_option maxRecDepth 100000 in
theorem InstDrains_lifted (os : Os) (started : os.Started) (H : Type) (enc : TypeId × Value → H) (F : Stop.Interp) :
    ReturnsInHanded {} Tryz.checked os 8 .any ((OpenSpec.ofChange Rows.instDrainsSpec).preRow enc Tryz.prog Tryz.f8 Rows.instDrainsRow.domain false Rows.instDrainsRow.laid) (((OpenSpec.ofChange Rows.instDrainsSpec).at F).post enc Tryz.prog Tryz.f8 false true false false) := by
  have hx : DataW.whole enc Tryz.prog ((laidWorld os).forCall (fun _ _ => 0) ⟨#[], #[.int .i64 0, .int .i64 0, .slice none 0 0, .slice none 0 0], []⟩).memory Tryz.f8.params.toList Rows.instDrainsSpec.vars false (#[.int .i64 0, .int .i64 0, .slice none 0 0, .slice none 0 0] : Array Value).toList 16 = some ([.lit (.int .i64 0), .lit (.int .i64 0), .nil, .nil], [], []) := by kernel_rfl
  refine returnsInHanded_of_row (C := Tryz.checked) (s := OpenSpec.ofChange Rows.instDrainsSpec) own started (by as_aux_lemma => kernel_rfl) Tryz.func8
    (witness_row_at (enc := enc) (C := Tryz.checked) false (laidWorld os) #[.int .i64 0, .int .i64 0, .slice none 0 0, .slice none 0 0] rfl (by as_aux_lemma => kernel_rfl) (by as_aux_lemma => kernel_rfl) (by as_aux_lemma => kernel_rfl)
      (OpenSpec.preRow_of_cond 16 hx (by as_aux_lemma => kernel_rfl) (fun k hk => by cases hk) (by as_aux_lemma => kernel_rfl) (laidWorld_met os _))) ?_
  intro W base args ds gs before hval hW _ _ _ hL _ _
  exact law_post rfl rfl (by intro H ds h; have h' : ds.length = 4 := h; match ds, h' with | [_, _, _, _], _ => rfl) (by decide +kernel) InstDrains_at (env_of_laid hL) hval hW
set_option maxHeartbeats 4000000 in
theorem InstDrains_said : Rows.InstDrainsSaid :=
  OpenClaim.holds_of_cond 8 Tryz.f8 rfl rfl rfl rfl rfl rfl rfl ⟨rfl, rfl, rfl, rfl, rfl⟩ rfl rfl rfl rfl rfl (by as_aux_lemma => kernel_rfl) Tryz.func8 (by as_aux_lemma => kernel_rfl)
    (of_decide_eq_true (by as_aux_lemma => kernel_rfl)) (by unfold Func.isWrapper; first | (rw [if_pos (by decide +kernel)]; as_aux_lemma => kernel_rfl) | (rw [if_neg (by decide +kernel)]; exact ⟨rfl, rfl⟩))
    (fun os started H enc _ F => by rw [OpenClaim.pre_eq_preRow]; exact InstDrains_lifted os started H enc F)
theorem InstDrains_plain (f : FuncId) (fn : Func) (hf : Tryz.pinned.checked.prog.funcNamed "cachewise/cachewiselaw11.InstDrains" = some f) (hfn : Tryz.pinned.checked.prog.funcs[f]? = some fn) :
    true = Tryz.pinned.checked.prog.looks [] ∧ ∀ (j : Nat) t, fn.params[j]? = some t → Tryz.pinned.checked.prog.wantsStandIn t = false := by
  obtain rfl : f = 8 := Option.some.inj ((show Tryz.prog.funcNamed "cachewise/cachewiselaw11.InstDrains" = some 8 by kernel_rfl).symm.trans hf) |>.symm
  obtain rfl : fn = Tryz.f8 := (Option.some.inj (Tryz.func8.symm.trans hfn)).symm
  refine ⟨by kernel_rfl, fun j t ht => ?_⟩
  have hall : ∀ t, t ∈ Tryz.f8.params.toList → Tryz.prog.wantsStandIn t = false := by decide +kernel
  exact hall t (by simpa using Array.mem_of_getElem? ht)
theorem InstDrains_card : Rows.InstDrainsCardSaid :=
  Claim7.holds_tied_plain_at .later [] _ _ _ _ InstDrains_said (fun _ h => by cases h) (by as_aux_lemma => kernel_rfl) (fun _ h => by cases h) instDrains_row_tie rfl ⟨rfl, rfl⟩ (by as_aux_lemma => kernel_rfl) rfl InstDrains_plain (by as_aux_lemma => kernel_rfl)
end Go.Proofs.YtbbdimlpofjlfaaGreatDoor
