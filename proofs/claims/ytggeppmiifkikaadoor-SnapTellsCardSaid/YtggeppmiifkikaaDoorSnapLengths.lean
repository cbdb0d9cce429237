/- A picture has 91 bytes, and for each item 11, its key and its value; each item stands in its turn. -/
import Derived.Test.YtggeppmiifkikaaDoorSnapFew
import Derived.Laws.StructEq
import Derived.Deep.QuietTactic
import Derived.BigQuiet
namespace Go.Proofs.YtggeppmiifkikaaDoor
open Go Go.RowKit Go.Shelf

def lenK (l : List It) (k : Nat) : Nat := 91 + ((l.take k).map fun x => 11 + x.key.size + x.val.size).sum
theorem lenK_succ {l : List It} {k : Nat} {x : It} (h : l[k]? = some x) : lenK l (k + 1) = lenK l k + 11 + x.key.size + x.val.size := by
  unfold lenK
  rw [List.take_add_one, h]
  simp
  omega
theorem lenK_le {l : List It} (h : FewL l) (k : Nat) : lenK l k ≤ 91 + 911 * k := by
  induction k with
  | zero => simp [lenK]
  | succ k ih =>
    cases hx : l[k]? with
    | none =>
      have : l.take (k + 1) = l.take k := by rw [List.take_add_one, hx]; simp
      unfold lenK at ih ⊢
      rw [this]; omega
    | some x =>
      rw [lenK_succ hx]
      have := h.2 x (List.mem_of_getElem? hx)
      unfold smallI at this
      omega
theorem lenK_print (p : Pic) : (printB p).length = lenK p.items p.items.length := by
  unfold printB bodyB lenK
  rw [List.length_append, List.length_append, head_length, beB_length, List.take_length]
  have : ∀ l : List It, (l.flatMap itB).length = (l.map fun x => 11 + x.key.size + x.val.size).sum := fun l => by
    induction l with
    | nil => rfl
    | cons x l ih => rw [List.flatMap_cons, List.length_append, itB_length, ih, List.map_cons, List.sum_cons]
  rw [this]
  omega
theorem Parse_back (p : Pic) (hp : FewP p) (he : picE p = .nil) (w : World) :
    Calls Tryd.prog 14 #[.string (prS p)] w fun r w' => ∃ v, r = .returned (.tuple #[.agg (picCells p v), .nilIface]) ∧ Holds w w' [OwnItems v p.items] := by
  have hpr : prS p = ⟨(printB p).toArray⟩ := by unfold prS; rw [he]; rfl
  have hf := hp.fine he
  have hm := parse_print hf
  have hl : (printB p).length ≤ 90000 := by
    unfold printB bodyB
    rw [List.length_append, List.length_append, head_length, beB_length]
    have := flat_length p.items hp.item
    have := hp.len
    omega
  refine (Snap_Parse (prS p) (by rw [hpr, ba_size]; exact hl) w).mono ?_
  have e : (prS p).data.toList = printB p := by rw [hpr]
  rintro r w' ⟨hk, ⟨e', u, hm', _⟩ | ⟨q, v, hm', rfl, hi⟩⟩
  · rw [e, hm] at hm'; cases hm'
  · rw [e, hm] at hm'
    cases hm'
    exact ⟨v, rfl, hi⟩
theorem ItemsAt.shape' {w : World} {v : Value} {l : List It} (h : ItemsAt w v l) {n : Nat} (hn : l.length = n) : ∃ ao cap, v = .slice ao n cap := by
  subst hn; exact h.shape
/-- What stands at an index. -/
theorem ItemsAt.get {w : World} {ao : Option Addr} {n cap : Nat} {l : List It} (h : ItemsAt w (.slice ao n cap) l) (k : Nat) {x : It} (hx : l[k]? = some x) :
    ∃ b off, ao = some ⟨b, off, none⟩ ∧ w.cell? ⟨b, off + k * 3, none⟩ = some (.string x.key) ∧ w.cell? ⟨b, off + k * 3 + 1, none⟩ = some (.string x.val) ∧ w.cell? ⟨b, off + k * 3 + 1 + 1, none⟩ = some (.int .i64 x.dl) := by
  rcases h with ⟨_, rfl⟩ | ⟨b, off, cap', he, e1, e2, e3⟩
  · cases hx
  · simp only [Value.slice.injEq] at he
    exact ⟨b, off, he.1, e3 k x hx⟩
set_option maxRecDepth 100000 in
set_option maxHeartbeats 4000000 in
theorem walk_SnapLengths (p : Pic) (v : Value) (W : World) (hE : Env W) (hv : ItemsAt W v p.items) (hf : PicFits p) :
    Calls Tryd.prog 6 #[.agg (picCells p v)] W fun r w' => r = .returned (.bool true) ∧ Holds W w' [] := by
  have hE := hide hE
  obtain ⟨n, hn⟩ : ∃ n, p.items.length = n := ⟨_, rfl⟩
  obtain ⟨ao, cap, rfl⟩ := hv.shape' hn
  have H0 := (Holds.start W).alloc (o := .cells (picCells p (.slice ao n cap)) 26)
  simp only [picCells] at H0
  have H0 := hide H0
  have cF := hide (fun w hv' => Few_val p (.slice ao n cap) w hv' hf.len)
  have cP := hide (fun w hv' hp => Snap_Print p (.slice ao n cap) w hv' hp)
  have cR := hide (fun w hv' => Snap_Right p (.slice ao n cap) w hv')
  have hv := hide hv
  have hf := hide hf
  simp only [picCells] at cF cP cR
  unfold picCells
  by_cases hfew : FewL p.items
  · have hb := hide (decide_eq_true hfew)
    have hp := hide (hfew.few hf.out)
    rcases wrapE_shape (picE0 p) with he | ⟨e, he⟩
    · have he : picE p = .nil := he
      have cB := hide (Parse_back p hp.out he)
      simp only [picCells] at cB
      have hpr : prS p = ⟨(printB p).toArray⟩ := by unfold prS; rw [he]; rfl
      have hsz : (prS p).size = lenK p.items n := by rw [hpr, ba_size, lenK_print, hn]
      have hlk := hide (lenK_le hfew)
      have hn40 : n ≤ 40 := by have := hfew.1; omega
      obtain ⟨s0, hs0⟩ : ∃ s0 : ByteArray, prS p = s0 := ⟨_, rfl⟩
      rw [hs0] at cB hsz
      rw [he, hs0] at cP
      have hsz := hide hsz
      have hn := hide hn
      clear hpr hs0 he hfew
      go_enter Tryd.func6, Tryd.ntmps6
      go_wp2_with (first
        | (go_at_call 9; (with_reducible refine (awake16 _ (hE.out.keep H0.out.toKeep)).mono ?_); rintro r w1 ⟨rfl, h⟩; have H1 := hide (H0.out.keep h); obtain ⟨c0, c1, c2, c3, c4, c5, c6, c7, c8, c9⟩ := ten_cells H1.out; clear h)
        | (go_at_call 10; (with_reducible refine (cF.out _ (hv.out.keep H1.out.toKeep) _ hb.out).mono ?_); rintro r w2 ⟨rfl, h⟩; have H2 := hide (H1.out.keep h); obtain ⟨c0, c1, c2, c3, c4, c5, c6, c7, c8, c9⟩ := ten_cells H2.out; clear h)
        | (go_at_call 11; (with_reducible refine (cP.out _ (hv.out.keep H2.out.toKeep) hp.out).mono ?_); rintro r w3 ⟨u, rfl, h, rfl⟩; have H3 := hide (H2.out.keep h); obtain ⟨c0, c1, c2, c3, c4, c5, c6, c7, c8, c9⟩ := ten_cells H3.out; clear h))
      have c9 : w3.cell? ⟨W.heap.size, 9, none⟩ = some (.slice ao n cap) := H3.out.cell rfl
      go_loopw [5, 6] (fun z i wr => ∃ k : Nat, ∃ N : Nat, i = .int .i64 k ∧ z = .int .i64 N ∧ k ≤ n ∧ Hide (N = lenK p.items k) ∧ Keep w3 wr) (fun _ i _ => (n - intOf i).toNat)
      case atStart => exact ⟨0, 91, rfl, rfl, Nat.zero_le _, ⟨by simp [lenK]⟩, Keep.refl _⟩
      case round =>
        obtain ⟨k, N, rfl, rfl, hk, hN, hh⟩ := hrel
        have hN1 : N ≤ 91 + 911 * k := by rw [hN.out]; exact hlk.out k
        have d9 := hh.cell c9
        have hh := hide hh
        by_cases hlt : k < n
        · have hlt' : (k : Int) < n := by omega
          obtain ⟨x, hx⟩ : ∃ x, p.items[k]? = some x := ⟨_, List.getElem?_eq_getElem (by have := hn.out; omega)⟩
          have hl1 := lenK_succ hx
          have hl2 := hlk.out (k + 1)
          obtain ⟨bb, off, rfl, q0, q1, q2⟩ := hv.out.get k hx
          have q0 := hh.out.cell (H3.out.toKeep.cell q0)
          have q1 := hh.out.cell (H3.out.toKeep.cell q1)
          obtain ⟨key, val, dl⟩ := x
          dsimp only at q0 q1 hl1
          obtain ⟨a, ha⟩ : ∃ a, key.size = a := ⟨_, rfl⟩
          obtain ⟨c, hc⟩ : ∃ c, val.size = c := ⟨_, rfl⟩
          rw [ha, hc, ← hN.out] at hl1
          have f1 : IntKind.i64.wrap ((N : Int) + 11) = (N : Int) + 11 := IntWalk.i64_in _ (by omega)
          have f2 : IntKind.i64.wrap ((N : Int) + 11 + (a : Int)) = (N : Int) + 11 + (a : Int) := IntWalk.i64_in _ (by omega)
          have f3 : IntKind.i64.wrap ((N : Int) + 11 + (a : Int) + (c : Int)) = (N : Int) + 11 + (a : Int) + (c : Int) := IntWalk.i64_in _ (by omega)
          have hl1 := hide hl1
          clear hx q2
          go_wp2
          go_quiet (fail)
          go_wp2
          go_roundw
          case rel => exact ⟨k + 1, N + 11 + a + c, by go_num, by go_num, hlt, ⟨hl1.out.symm⟩, hh.out.drewN⟩
          case measure => (simp [intOf] <;> omega)
        · obtain rfl : n = k := by omega
          obtain rfl : N = s0.size := by rw [hN.out, hsz.out]
          have H4 := hide (H3.out.keep hh.out)
          obtain ⟨c0, c1, c2, c3, c4, c5, c6, c7, c8, c9⟩ := ten_cells H4.out
          clear d9
          go_wp2_with (go_at_call 14; (with_reducible refine (cB.out _).mono ?_); rintro r w5 ⟨v', rfl, h⟩; obtain ⟨ao', cap', rfl⟩ := h.itemsOf.shape' hn.out; have H5 := hide ((H4.out.join h).alloc (o := .cells #[.int .i64 p.c.size, .int .i64 p.c.shift, .int .i64 p.c.window, .int .i64 p.c.margin, .int .i64 p.c.hold, .int .i64 p.c.quota, .int .i64 p.c.pin, .int .i64 p.kind, .int .i64 p.now, .slice ao' n cap'] 26)); obtain ⟨d0, d1, d2, d3, d4, d5, d6, d7, d8, d9⟩ := ten_cells H5.out; obtain ⟨e0, e1, e2, e3, e4, e5, e6, e7, e8, e9⟩ := ten_cells H5.out.p2; clear h)
          have hit := hide H5.out.p1.itemsOf
          have hiv := hide (hv.out.keep H5.out.toKeep)
          have hk5 := hide H5.out.nil
          obtain ⟨qb, hqb⟩ : ∃ qb, w5.heap.size = qb := ⟨_, rfl⟩
          obtain ⟨pb, hpb⟩ : ∃ pb, W.heap.size = pb := ⟨_, rfl⟩
          rw [hqb] at d9
          rw [hpb] at e9
          simp only [hqb, hpb]
          generalize w5.alloc (.cells #[.int .i64 p.c.size, .int .i64 p.c.shift, .int .i64 p.c.window, .int .i64 p.c.margin, .int .i64 p.c.hold, .int .i64 p.c.quota, .int .i64 p.c.pin, .int .i64 p.kind, .int .i64 p.now, .slice ao' n cap'] 26) = w6 at d9 e9 hit hiv hk5 ⊢
          go_loopw [9] (fun i wr => ∃ k : Nat, i = .int .i64 k ∧ k ≤ n ∧ Keep w6 wr) (fun i _ => (n - intOf i).toNat)
          case atStart => exact ⟨0, rfl, Nat.zero_le _, Keep.refl _⟩
          case round =>
            obtain ⟨k, rfl, hk, hh⟩ := hrel
            have d9 := hh.cell d9
            have e9 := hh.cell e9
            by_cases hlt : k < n
            · have hlt' : (k : Int) < n := by omega
              obtain ⟨x, hx⟩ : ∃ x, p.items[k]? = some x := ⟨_, List.getElem?_eq_getElem (by have := hn.out; omega)⟩
              obtain ⟨bb, off, rfl, q0, q1, q2⟩ := hiv.out.get k hx
              obtain ⟨bb', off', rfl, r0, r1, r2⟩ := hit.out.get k hx
              have q0 := hh.cell q0
              have q1 := hh.cell q1
              have q2 := hh.cell q2
              have r0 := hh.cell r0
              have r1 := hh.cell r1
              have r2 := hh.cell r2
              have hh := hide hh
              clear hx
              go_wp2
              go_quiet (fail)
              go_wp2
              go_roundw
              case rel => exact ⟨k + 1, by go_num, hlt, hh.out.drewN⟩
              case measure => (simp [intOf] <;> omega)
            · obtain rfl : n = k := by omega
              have hh := hide hh
              go_wp2
              go_ret
              exact ⟨rfl, hk5.out.keep hh.out⟩
    · have he : picE p = .fault tSnap ⟨#[]⟩ e := he
      have hpr : prS p = ⟨#[]⟩ := by unfold prS; rw [he]; rfl
      rw [he, hpr] at cP
      rw [he] at cR
      clear hfew
      go_enter Tryd.func6, Tryd.ntmps6
      go_wp2_with (first
        | (go_at_call 9; (with_reducible refine (awake16 _ (hE.out.keep H0.out.toKeep)).mono ?_); rintro r w1 ⟨rfl, h⟩; have H1 := hide (H0.out.keep h); obtain ⟨c0, c1, c2, c3, c4, c5, c6, c7, c8, c9⟩ := ten_cells H1.out; clear h)
        | (go_at_call 10; (with_reducible refine (cF.out _ (hv.out.keep H1.out.toKeep) _ hb.out).mono ?_); rintro r w2 ⟨rfl, h⟩; have H2 := hide (H1.out.keep h); obtain ⟨c0, c1, c2, c3, c4, c5, c6, c7, c8, c9⟩ := ten_cells H2.out; clear h)
        | (go_at_call 11; (with_reducible refine (cP.out _ (hv.out.keep H2.out.toKeep) hp.out).mono ?_); rintro r w3 ⟨u, rfl, h, hu⟩; have H3 := hide (H2.out.keep h); obtain ⟨bf, ve, rfl, _⟩ := hu; obtain ⟨c0, c1, c2, c3, c4, c5, c6, c7, c8, c9⟩ := ten_cells H3.out; clear h)
        | (go_at_call 17; (with_reducible refine (cR.out _ (hv.out.keep H3.out.toKeep)).mono ?_); rintro r w4 ⟨u, rfl, h, hu⟩; have H4 := hide (H3.out.keep h); obtain ⟨bf, ve, rfl, _⟩ := hu; clear h))
      go_ret
      exact ⟨rfl, H4.out.nil⟩
  · have hb := hide (decide_eq_false hfew)
    clear hfew
    go_enter Tryd.func6, Tryd.ntmps6
    go_wp2_with (first
      | (go_at_call 9; (with_reducible refine (awake16 _ (hE.out.keep H0.out.toKeep)).mono ?_); rintro r w1 ⟨rfl, h⟩; have H1 := hide (H0.out.keep h); obtain ⟨c0, c1, c2, c3, c4, c5, c6, c7, c8, c9⟩ := ten_cells H1.out; clear h)
      | (go_at_call 10; (with_reducible refine (cF.out _ (hv.out.keep H1.out.toKeep) _ hb.out).mono ?_); rintro r w2 ⟨rfl, h⟩; have H2 := hide (H1.out.keep h); clear h))
    go_ret
    exact ⟨rfl, H2.out.nil⟩
theorem SnapLengths_at : LawAt 6 Tryd.f6 := by
  intro W args hE hA
  rw [Tryd.params6] at hA
  obtain ⟨v0, vs0, e0, a0, hA⟩ := args_cons hA
  obtain rfl := args_nil hA
  obtain ⟨p, u, rfl, hv, hf⟩ := pic_of_arg a0
  obtain rfl : args = #[.agg (picCells p u)] := by cases args; simpa using e0
  exact walk_SnapLengths p u W hE hv hf
set_option maxRecDepth 100000 in
theorem SnapLengths_lifted (os : Os) (started : os.Started) (H : Type) (enc : TypeId × Value → H) (F : Stop.Interp) :
    ReturnsInHanded {} Tryd.checked os 6 .any ((OpenSpec.ofChange Rows.snapLengthsSpec).preRow enc Tryd.prog Tryd.f6 Rows.snapLengthsRow.domain false Rows.snapLengthsRow.laid) (((OpenSpec.ofChange Rows.snapLengthsSpec).at F).post enc Tryd.prog Tryd.f6 false true false false) := by
  have hx : DataW.whole enc Tryd.prog ((laidWorld os).forCall (fun _ _ => 0) ⟨#[], #[.agg (picCells noPic (.slice none 0 0))], []⟩).memory Tryd.f6.params.toList Rows.snapLengthsSpec.vars false (#[.agg (picCells noPic (.slice none 0 0))] : Array Value).toList 16 = some ([.agg [.agg [.lit (.int .i64 0), .lit (.int .i64 0), .lit (.int .i64 0), .lit (.int .i64 0), .lit (.int .i64 0), .lit (.int .i64 0), .lit (.int .i64 0)], .lit (.int .i64 0), .lit (.int .i64 0), .nil]], [], []) := by kernel_rfl
  refine returnsInHanded_of_row (C := Tryd.checked) (s := OpenSpec.ofChange Rows.snapLengthsSpec) own started (by kernel_rfl) Tryd.func6
    (witness_row_at (enc := enc) (C := Tryd.checked) false (laidWorld os) #[.agg (picCells noPic (.slice none 0 0))] rfl (by kernel_rfl) (by kernel_rfl) (by kernel_rfl)
      (OpenSpec.preRow_of_cond 16 hx (by kernel_rfl) (fun k hk => by cases hk) (by kernel_rfl) (laidWorld_met os _))) ?_
  intro W base args ds gs before hval hW _ _ _ hL _ _
  exact law_post rfl rfl (by intro H ds h; have h' : ds.length = 1 := h; match ds, h' with | [_], _ => rfl) (by decide +kernel) SnapLengths_at (env_of_laid hL) hval hW
theorem SnapLengths_said : Rows.SnapLengthsSaid :=
  OpenClaim.holds_of_cond 6 Tryd.f6 rfl rfl rfl rfl rfl rfl rfl ⟨rfl, rfl, rfl, rfl, rfl⟩ rfl rfl rfl rfl rfl (by kernel_rfl) Tryd.func6 (by kernel_rfl)
    (of_decide_eq_true (by kernel_rfl)) (by unfold Func.isWrapper; first | (rw [if_pos (by decide +kernel)]; kernel_rfl) | (rw [if_neg (by decide +kernel)]; exact ⟨rfl, rfl⟩))
    (fun os started H enc _ F => by rw [OpenClaim.pre_eq_preRow]; exact SnapLengths_lifted os started H enc F)
theorem SnapLengths_plain (f : FuncId) (fn : Func) (hf : Tryd.pinned.checked.prog.funcNamed "cachewise/cachewiselaw16.SnapLengths" = some f) (hfn : Tryd.pinned.checked.prog.funcs[f]? = some fn) :
    true = Tryd.pinned.checked.prog.looks [] ∧ ∀ (j : Nat) t, fn.params[j]? = some t → Tryd.pinned.checked.prog.wantsStandIn t = false := by
  obtain rfl : f = 6 := Option.some.inj ((show Tryd.prog.funcNamed "cachewise/cachewiselaw16.SnapLengths" = some 6 by kernel_rfl).symm.trans hf) |>.symm
  obtain rfl : fn = Tryd.f6 := (Option.some.inj (Tryd.func6.symm.trans hfn)).symm
  refine ⟨by kernel_rfl, fun j t ht => ?_⟩
  have hall : ∀ t, t ∈ Tryd.f6.params.toList → Tryd.prog.wantsStandIn t = false := by decide +kernel
  exact hall t (by simpa using Array.mem_of_getElem? ht)
theorem SnapLengths_card : Rows.SnapLengthsCardSaid :=
  Claim7.holds_tied_plain_at .later [] _ _ _ _ SnapLengths_said (fun _ h => by cases h) (by kernel_rfl) (fun _ h => by cases h) snapLengths_row_tie rfl ⟨rfl, rfl⟩ (by kernel_rfl) rfl SnapLengths_plain (by kernel_rfl)
end Go.Proofs.YtggeppmiifkikaaDoor
