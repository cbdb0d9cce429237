/- The law FixFaults: its walk, its card. -/
import Derived.Test.YtfdeafiidaepgaaDoorLift
import Derived.Test.YtfdeafiidaepgaaDoorFixVals
import Derived.Test.YtfdeafiidaepgaaDoorQuote0
namespace Go.Proofs.YtfdeafiidaepgaaDoor
open Go Go.RowKit Go.ChangeShapes Go.WideShapes Go.ChangeAt

theorem methodErrorF (b : Nat) (w : World) : (Go.method 265 62 (.pointer (some ⟨b, 0, none⟩)) "Error").run Tryd.prog w = .ok (88, .pointer (some ⟨b, 0, none⟩)) w := by kernel_rfl
theorem neqNo (n c : Int) (w : World) : (binOp BinOp.neq 26 (.iface 47 (.int .i64 n)) (.iface 47 (.int .i64 c))).run Tryd.prog w = .ok (.bool (n != c)) w := by kernel_rfl
theorem unwrap_fault (b : Nat) (op key : ByteArray) (ve : Value) (w : World) (h : w.heap[b]? = some (.cells #[.string op, .string key, ve] 66)) :
    Calls Tryd.prog 33 #[.iface 62 (.pointer (some ⟨b, 0, none⟩))] w fun e w' => e = .returned ve ∧ Keep w w' := by
  have h3 := assertUnFault (.pointer (some ⟨b, 0, none⟩))
  have h4 := methodUnwrap b
  go_enter Tryd.func33, Tryd.ntmps33
  go_wp2_with (go_at_call 89; refine (unwrap_any b op key _ _ h).mono ?_; rintro r w' ⟨rfl, rfl⟩)
  go_ret
  exact ⟨rfl, Keep.refl _⟩
theorem Is_fault (c : Int) (op : ByteArray) (v : Value) (w : World) (he : ErrAt w (.fault op ⟨#[]⟩ (.no 1)) v) (d : Bool) (hd : decide (1 = c) = d) :
    Calls Tryd.prog 32 #[v, .iface 47 (.int .i64 c)] w fun r w' => r = .returned (.bool d) ∧ Keep w w' := by
  refine (Is_any c _ v w he trivial).mono ?_
  rintro r w' ⟨rfl, rfl⟩
  exact ⟨by rw [← hd]; rfl, Keep.refl _⟩
set_option maxRecDepth 100000 in
set_option maxHeartbeats 8000000 in
theorem walk_FixFaults_ok (a n : Nat) (ha : a < 18446744073709551616) (hn : n < 9223372036854775808) (W : World) (hE : Env W) :
    Calls Tryd.prog 11 #[.int .u64 a, .int .i64 n] W fun e w' => e = .returned (.bool true) ∧ Holds W w' [] := by
  have hE := hide hE
  have h0 : ¬ (n : Int) < 0 := by omega
  have hn2 := hide (show (0 : Int) ≤ n ∧ (n : Int) ≤ 9223372036854775807 by omega)
  have hn := hide hn
  have u1 := neqNo 1 1
  go_enter Tryd.func11, Tryd.ntmps11
  go_wp2_with (first
    | (go_at_call 12; (with_reducible refine (awake01 W hE.out).mono ?_); rintro r wn ⟨rfl, h⟩; have k0 := hide h; clear h; have k := hide (Keep.refl wn))
    | (go_at_call 13; (with_reducible refine (Div_none a ha _).mono ?_); rintro r wn ⟨v, rfl, h, he⟩; replace k0 := hide (k0.out.trans (k.out.trans h)); have e0 := hide he; obtain ⟨bf, ve, rfl, hb, rfl⟩ := he; have hb := hide hb; replace k := hide (Keep.refl wn); clear h)
    | (go_at_call 24; (with_reducible refine (Pow_val a _ n rfl ha hn2.out _).mono ?_); rintro r wn ⟨rfl, h⟩; replace k := hide (k.out.trans h); clear h)
    | (go_at_call 15; (with_reducible refine (Whole_1 n _ rfl hn.out _).mono ?_); rintro r wn ⟨rfl, h⟩; replace k := hide (k.out.trans h); clear h)
    | (go_at_call 32; (with_reducible refine (Is_fault 2 _ _ _ (e0.out.keep k.out) false (by decide)).mono ?_); rintro r wn ⟨rfl, h⟩; replace k := hide (k.out.trans h); clear h)
    | (go_at_call 32; (with_reducible refine (Is_fault 0 _ _ _ (e0.out.keep k.out) false (by decide)).mono ?_); rintro r wn ⟨rfl, h⟩; replace k := hide (k.out.trans h); clear h)
    | (go_at_call 32; (with_reducible refine (Is_fault 1 _ _ _ (e0.out.keep k.out) true (by decide)).mono ?_); rintro r wn ⟨rfl, h⟩; replace k := hide (k.out.trans h); clear h)
    | (go_at_call 33; (with_reducible refine (unwrap_fault _ _ _ _ _ (k.out.block _ _ hb.out)).mono ?_); rintro r wn ⟨rfl, h⟩; replace k := hide (k.out.trans h); clear h))
  go_ret
  exact ⟨rfl, (k0.out.trans k.out).holds⟩
set_option maxRecDepth 100000 in
set_option maxHeartbeats 8000000 in
theorem walk_FixFaults_bad (a : Nat) (n : Int) (ha : a < 18446744073709551616) (h0 : n < 0) (hn : -9223372036854775808 ≤ n) (W : World) (hE : Env W) :
    Calls Tryd.prog 11 #[.int .u64 a, .int .i64 n] W fun e w' => e = .returned (.bool true) ∧ Holds W w' [] := by
  have hE := hide hE
  have hn := hide hn
  have hw := hide (show n < 0 ∨ (1 : Int) ≤ 0 from .inl h0)
  have u1 := neqNo 1 1
  have u2 := methodErrorF
  go_enter Tryd.func11, Tryd.ntmps11
  go_wp2_with (first
    | (go_at_call 12; (with_reducible refine (awake01 W hE.out).mono ?_); rintro r wn ⟨rfl, h⟩; have k0 := hide h; clear h; have k := hide (Keep.refl wn))
    | (go_at_call 13; (with_reducible refine (Div_none a ha _).mono ?_); rintro r wn ⟨v, rfl, h, he⟩; replace k0 := hide (k0.out.trans (k.out.trans h)); have e0 := hide he; obtain ⟨bf, ve, rfl, hb, rfl⟩ := he; have hb := hide hb; replace k := hide (Keep.refl wn); clear h)
    | (go_at_call 24; (with_reducible refine (Pow_none a n h0 ha hn.out _).mono ?_); rintro r wn ⟨v, rfl, h, he⟩; replace k0 := hide (k0.out.trans (k.out.trans h)); replace e0 := hide (e0.out.keep (k.out.trans h)); replace hb := hide ((k.out.trans h).block _ _ hb.out); have e1 := hide he; obtain ⟨bg, vg, rfl, hbg, rfl⟩ := he; have hbg := hide hbg; replace k := hide (Keep.refl wn); clear h)
    | (go_at_call 15; (with_reducible refine (Whole_none n 1 hw.out _).mono ?_); rintro r wn ⟨v, rfl, h, he⟩; replace k := hide (k.out.trans h); obtain ⟨bh, vh, rfl, _, rfl⟩ := he; clear h)
    | (go_at_call 32; (with_reducible refine (Is_fault 2 _ _ _ (e0.out.keep k.out) false (by decide)).mono ?_); rintro r wn ⟨rfl, h⟩; replace k := hide (k.out.trans h); clear h)
    | (go_at_call 32; (with_reducible refine (Is_fault 0 _ _ _ (e0.out.keep k.out) false (by decide)).mono ?_); rintro r wn ⟨rfl, h⟩; replace k := hide (k.out.trans h); clear h)
    | (go_at_call 32; (with_reducible refine (Is_fault 1 _ _ _ (e0.out.keep k.out) true (by decide)).mono ?_); rintro r wn ⟨rfl, h⟩; replace k := hide (k.out.trans h); clear h)
    | (go_at_call 32; (with_reducible refine (Is_fault 1 _ _ _ (e1.out.keep k.out) true (by decide)).mono ?_); rintro r wn ⟨rfl, h⟩; replace k := hide (k.out.trans h); clear h)
    | (go_at_call 33; (with_reducible refine (unwrap_fault _ _ _ _ _ (k.out.block _ _ hb.out)).mono ?_); rintro r wn ⟨rfl, h⟩; replace k := hide (k.out.trans h); clear h)
    | (go_at_call 88; (with_reducible refine (Fault_Error _ _ _ (by decide) (k.out.block _ _ hbg.out)).mono ?_); rintro r wn ⟨s, rfl, hs, h⟩; replace k := hide (k.out.trans h); have hs2 : (!s.toList.isEmpty) = true := (by simpa using hs); clear h))
  go_ret
  exact ⟨rfl, (k0.out.trans k.out).holds⟩
theorem FixFaults_at : LawAt 11 Tryd.f11 := by
  intro W args hE hA
  rw [Tryd.params11] at hA
  obtain ⟨v0, vs0, e0, a0, hA⟩ := args_cons hA
  obtain ⟨v1, vs1, rfl, a1, hA⟩ := args_cons hA
  obtain rfl := args_nil hA
  obtain ⟨a', ea, ba⟩ := arg_int Tryd.underlying23 a0
  have ba := u64_bounds ba
  obtain ⟨a, rfl⟩ : ∃ a : Nat, a' = a := ⟨Int.toNat a', by omega⟩
  subst ea
  obtain ⟨b, eb, bb⟩ := arg_int Tryd.underlying3 a1
  have bb := i64_bounds bb
  subst eb
  obtain rfl : args = #[.int .u64 a, .int .i64 b] := by cases args; simpa using e0
  by_cases h : b < 0
  · exact walk_FixFaults_bad a b (by omega) h (by omega) W hE
  · obtain ⟨b, rfl⟩ : ∃ b' : Nat, b = b' := ⟨b.toNat, by omega⟩
    exact walk_FixFaults_ok a b (by omega) (by omega) W hE
set_option maxRecDepth 100000 in
theorem FixFaults_lifted (os : Os) (started : os.Started) (H : Type) (enc : TypeId × Value → H) (F : Stop.Interp) :
    ReturnsInHanded {} Tryd.checked os 11 .any ((OpenSpec.ofChange Rows.fixFaultsSpec).preRow enc Tryd.prog Tryd.f11 Rows.fixFaultsRow.domain false Rows.fixFaultsRow.laid) (((OpenSpec.ofChange Rows.fixFaultsSpec).at F).post enc Tryd.prog Tryd.f11 false true false false) := by
  have hx : DataW.whole enc Tryd.prog ((laidWorld os).forCall (fun _ _ => 0) ⟨#[], #[.int .u64 0, .int .i64 0], []⟩).memory Tryd.f11.params.toList Rows.fixFaultsSpec.vars false (#[.int .u64 0, .int .i64 0] : Array Value).toList 16 = some ([.lit (.int .u64 0), .lit (.int .i64 0)], [], []) := by kernel_rfl
  refine returnsInHanded_of_row (C := Tryd.checked) (s := OpenSpec.ofChange Rows.fixFaultsSpec) own started (by kernel_rfl) Tryd.func11
    (witness_row_at (enc := enc) (C := Tryd.checked) false (laidWorld os) #[.int .u64 0, .int .i64 0] rfl (by kernel_rfl) (by kernel_rfl) (by kernel_rfl)
      (OpenSpec.preRow_of_cond 16 hx (by kernel_rfl) (fun k hk => by cases hk) (by kernel_rfl) (laidWorld_met os _))) ?_
  intro W base args ds gs before hval hW _ _ _ hL _ _
  exact law_post rfl rfl (by intro H ds h; have h' : ds.length = 2 := h; match ds, h' with | [_, _], _ => rfl) (by decide +kernel) FixFaults_at (env_of_laid hL) hval hW
theorem FixFaults_said : Rows.FixFaultsSaid :=
  OpenClaim.holds_of_cond 11 Tryd.f11 rfl rfl rfl rfl rfl rfl rfl ⟨rfl, rfl, rfl, rfl, rfl⟩ rfl rfl rfl rfl rfl (by kernel_rfl) Tryd.func11 (by kernel_rfl)
    (of_decide_eq_true (by kernel_rfl)) (by unfold Func.isWrapper; first | (rw [if_pos (by decide +kernel)]; kernel_rfl) | (rw [if_neg (by decide +kernel)]; exact ⟨rfl, rfl⟩))
    (fun os started H enc _ F => by rw [OpenClaim.pre_eq_preRow]; exact FixFaults_lifted os started H enc F)
theorem FixFaults_plain (f : FuncId) (fn : Func) (hf : Tryd.pinned.checked.prog.funcNamed "cachewise/cachewiselaw01.FixFaults" = some f) (hfn : Tryd.pinned.checked.prog.funcs[f]? = some fn) :
    true = Tryd.pinned.checked.prog.looks [] ∧ ∀ (j : Nat) t, fn.params[j]? = some t → Tryd.pinned.checked.prog.wantsStandIn t = false := by
  obtain rfl : f = 11 := Option.some.inj ((show Tryd.prog.funcNamed "cachewise/cachewiselaw01.FixFaults" = some 11 by kernel_rfl).symm.trans hf) |>.symm
  obtain rfl : fn = Tryd.f11 := (Option.some.inj (Tryd.func11.symm.trans hfn)).symm
  refine ⟨by kernel_rfl, fun j t ht => ?_⟩
  have hall : ∀ t, t ∈ Tryd.f11.params.toList → Tryd.prog.wantsStandIn t = false := by decide +kernel
  exact hall t (by simpa using Array.mem_of_getElem? ht)
theorem FixFaults_card : Rows.FixFaultsCardSaid :=
  Claim7.holds_tied_plain_at .later [] _ _ _ _ FixFaults_said (fun _ h => by cases h) (by kernel_rfl) (fun _ h => by cases h) fixFaults_row_tie rfl ⟨rfl, rfl⟩ (by kernel_rfl) rfl FixFaults_plain (by kernel_rfl)
end Go.Proofs.YtfdeafiidaepgaaDoor
