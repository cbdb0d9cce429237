/- The law LearnSame. -/
import Derived.Test.YteledfiechbhgaaGreatDoorQLawSame
import Derived.Test.YteledfiechbhgaaGreatDoorQRefs10
namespace Go.Proofs.YteledfiechbhgaaGreatDoor
open Go Go.RowKit

set_option maxRecDepth 100000 in
theorem script_of_arg {W : World} {v : Value} (h : Arg Tryz.prog W 44 v) : ∃ sc : List Act5, ScriptAt W v sc := by
  have e3 : Tryz.prog.cellsOf 47 = 3 := by kernel_rfl
  rcases arg_slice Tryz.underlying44 h with rfl | ⟨a, len, cap, n, rfl, h1, h2, h3⟩
  · exact ⟨[], .inl ⟨rfl, rfl⟩⟩
  · rw [e3] at h3
    have hact : ∀ i, i < len → ∃ x : Act5, (a.add (i * 3)).spot = none ∧ W.cell? ⟨(a.add (i * 3)).block, (a.add (i * 3)).off, none⟩ = some (.int .i64 x.kind) ∧ W.cell? ⟨(a.add (i * 3)).block, (a.add (i * 3)).off + 1, none⟩ = some (.string x.key) ∧ W.cell? ⟨(a.add (i * 3)).block, (a.add (i * 3)).off + 2, none⟩ = some (.int .i64 x.n) := fun i hi => by
      obtain ⟨cs, hc, hs⟩ := h3 i hi
      obtain ⟨b, hb⟩ : ∃ b, a.add (i * 3) = b := ⟨_, rfl⟩
      rw [hb] at hc ⊢
      obtain ⟨_, hl, hat⟩ := World.cells?_some hc
      obtain ⟨_, n', hf⟩ := shp_struct Tryz.underlying47 hs
      have e1 : Tryz.prog.cellsOf 3 = 1 := by kernel_rfl
      have es : Tryz.prog.cellsOf 9 = 1 := by kernel_rfl
      match cs, hl with
      | [d0, d1, d2], _ =>
        have f0 := hf _ (List.mem_cons_self)
        have f1 := hf _ (List.mem_cons_of_mem _ List.mem_cons_self)
        have f2 := hf _ (List.mem_cons_of_mem _ (List.mem_cons_of_mem _ List.mem_cons_self))
        simp only [e1, es, List.drop_zero, List.drop_succ_cons, List.take_succ_cons, List.take_zero, List.take_nil] at f0 f1 f2
        obtain ⟨x, hx, _⟩ := shp_int Tryz.underlying3 f0
        obtain ⟨k, hk, _⟩ := shp_string Tryz.underlying9 f1
        obtain ⟨y, hy, _⟩ := shp_int Tryz.underlying3 f2
        simp only [List.cons.injEq, and_true] at hx hk hy
        subst hx hk hy
        have hsp : b.spot = none := by
          have h0 := hat 0 (by decide)
          rw [show b.add 0 = b by unfold Addr.add; exact if_pos rfl] at h0
          exact spot_none h0
        obtain ⟨ab, ao, asp⟩ := b
        simp only at hsp
        subst hsp
        refine ⟨⟨x, k, y⟩, rfl, ?_, ?_, ?_⟩
        · have h0 := hat 0 (by decide); rw [addr_add] at h0; exact h0
        · have h0 := hat 1 (by decide); rw [addr_add] at h0; exact h0
        · have h0 := hat 2 (by decide); rw [addr_add] at h0; exact h0
    obtain ⟨g, hg⟩ : ∃ g : Nat → Act5, ∀ i, i < len → (a.add (i * 3)).spot = none ∧ W.cell? ⟨(a.add (i * 3)).block, (a.add (i * 3)).off, none⟩ = some (.int .i64 (g i).kind) ∧ W.cell? ⟨(a.add (i * 3)).block, (a.add (i * 3)).off + 1, none⟩ = some (.string (g i).key) ∧ W.cell? ⟨(a.add (i * 3)).block, (a.add (i * 3)).off + 2, none⟩ = some (.int .i64 (g i).n) := by
      refine ⟨fun i => if hi : i < len then Classical.choose (hact i hi) else ⟨0, ⟨#[]⟩, 0⟩, fun i hi => ?_⟩
      dsimp only
      rw [dif_pos hi]
      exact Classical.choose_spec (hact i hi)
    refine ⟨(List.range len).map g, .inr ⟨a, cap, by simp, fun i x hx => ?_⟩⟩
    rw [List.getElem?_map, Option.map_eq_some_iff] at hx
    obtain ⟨k, hk, rfl⟩ := hx
    obtain ⟨hj, rfl⟩ := List.getElem?_eq_some_iff.1 hk
    rw [List.length_range] at hj
    rw [List.getElem_range]
    have h0 := hg 0 (by omega)
    have ha : a.spot = none := by
      have := h0.1
      rwa [Nat.zero_mul, show a.add 0 = a by unfold Addr.add; exact if_pos rfl] at this
    have h1 := (hg i hj).2
    obtain ⟨ab, ao, asp⟩ := a
    simp only at ha
    subst ha
    rw [addr_add] at h1
    exact ⟨rfl, h1⟩
set_option maxRecDepth 100000 in
theorem LearnSame_at : LawAt 7 Tryz.f7 := by
  intro W args hE hA
  rw [Tryz.params7] at hA
  obtain ⟨v0, vs0, e0, a0, hA⟩ := args_cons hA
  obtain ⟨v1, vs1, rfl, a1, hA⟩ := args_cons hA
  obtain ⟨v2, vs2, rfl, a2, hA⟩ := args_cons hA
  obtain ⟨v3, vs3, rfl, a3, hA⟩ := args_cons hA
  obtain rfl := args_nil hA
  obtain ⟨kind, rfl, _⟩ := arg_int Tryz.underlying3 a0
  obtain ⟨most, rfl, _⟩ := arg_int Tryz.underlying3 a1
  obtain ⟨lane, hl, hll⟩ := lane_of_arg a2
  obtain ⟨sc, hs⟩ := script_of_arg a3
  obtain rfl : args = #[.int .i64 kind, .int .i64 most, v2, v3] := by cases args; simpa using e0
  exact walk_LearnSame kind most v2 v3 lane sc W hE hl hll hs
set_option maxRecDepth 100000 in
theorem LearnSame_lifted (os : Os) (started : os.Started) (H : Type) (enc : TypeId × Value → H) (F : Stop.Interp) :
    ReturnsInHanded {} Tryz.checked os 7 .any ((OpenSpec.ofChange Rows.learnSameSpec).preRow enc Tryz.prog Tryz.f7 Rows.learnSameRow.domain false Rows.learnSameRow.laid) (((OpenSpec.ofChange Rows.learnSameSpec).at F).post enc Tryz.prog Tryz.f7 false true false false) := by
  have hx : DataW.whole enc Tryz.prog ((laidWorld os).forCall (fun _ _ => 0) ⟨#[], #[.int .i64 0, .int .i64 0, .slice none 0 0, .slice none 0 0], []⟩).memory Tryz.f7.params.toList Rows.learnSameSpec.vars false (#[.int .i64 0, .int .i64 0, .slice none 0 0, .slice none 0 0] : Array Value).toList 16 = some ([.lit (.int .i64 0), .lit (.int .i64 0), .nil, .nil], [], []) := by kernel_rfl
  refine returnsInHanded_of_row (C := Tryz.checked) (s := OpenSpec.ofChange Rows.learnSameSpec) own started (by as_aux_lemma => kernel_rfl) Tryz.func7
    (witness_row_at (enc := enc) (C := Tryz.checked) false (laidWorld os) #[.int .i64 0, .int .i64 0, .slice none 0 0, .slice none 0 0] rfl (by as_aux_lemma => kernel_rfl) (by as_aux_lemma => kernel_rfl) (by as_aux_lemma => kernel_rfl)
      (OpenSpec.preRow_of_cond 16 hx (by as_aux_lemma => kernel_rfl) (fun k hk => by cases hk) (by as_aux_lemma => kernel_rfl) (laidWorld_met os _))) ?_
  intro W base args ds gs before hval hW _ _ _ hL _ _
  exact law_post rfl rfl (by intro H ds h; have h' : ds.length = 4 := h; match ds, h' with | [_, _, _, _], _ => rfl) (by decide +kernel) LearnSame_at (env_of_laid hL) hval hW
set_option maxHeartbeats 4000000 in
theorem LearnSame_said : Rows.LearnSameSaid :=
  OpenClaim.holds_of_cond 7 Tryz.f7 rfl rfl rfl rfl rfl rfl rfl ⟨rfl, rfl, rfl, rfl, rfl⟩ rfl rfl rfl rfl rfl (by as_aux_lemma => kernel_rfl) Tryz.func7 (by as_aux_lemma => kernel_rfl)
    (of_decide_eq_true (by as_aux_lemma => kernel_rfl)) (by unfold Func.isWrapper; first | (rw [if_pos (by decide +kernel)]; as_aux_lemma => kernel_rfl) | (rw [if_neg (by decide +kernel)]; exact ⟨rfl, rfl⟩))
    (fun os started H enc _ F => by rw [OpenClaim.pre_eq_preRow]; exact LearnSame_lifted os started H enc F)
theorem LearnSame_plain (f : FuncId) (fn : Func) (hf : Tryz.pinned.checked.prog.funcNamed "cachewise/cachewiselaw10.LearnSame" = some f) (hfn : Tryz.pinned.checked.prog.funcs[f]? = some fn) :
    true = Tryz.pinned.checked.prog.looks [] ∧ ∀ (j : Nat) t, fn.params[j]? = some t → Tryz.pinned.checked.prog.wantsStandIn t = false := by
  obtain rfl : f = 7 := Option.some.inj ((show Tryz.prog.funcNamed "cachewise/cachewiselaw10.LearnSame" = some 7 by kernel_rfl).symm.trans hf) |>.symm
  obtain rfl : fn = Tryz.f7 := (Option.some.inj (Tryz.func7.symm.trans hfn)).symm
  refine ⟨by kernel_rfl, fun j t ht => ?_⟩
  have hall : ∀ t, t ∈ Tryz.f7.params.toList → Tryz.prog.wantsStandIn t = false := by decide +kernel
  exact hall t (by simpa using Array.mem_of_getElem? ht)
theorem LearnSame_card : Rows.LearnSameCardSaid :=
  Claim7.holds_tied_plain_at .later [] _ _ _ _ LearnSame_said (fun _ h => by cases h) (by as_aux_lemma => kernel_rfl) (fun _ h => by cases h) learnSame_row_tie rfl ⟨rfl, rfl⟩ (by as_aux_lemma => kernel_rfl) rfl LearnSame_plain (by as_aux_lemma => kernel_rfl)
end Go.Proofs.YteledfiechbhgaaGreatDoor
