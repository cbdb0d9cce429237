/- With one byte turned a picture's bytes are none. -/
import Derived.Test.YtggeppmiifkikaaDoorSnapTurn
namespace Go.Proofs.YtggeppmiifkikaaDoor
open Go Go.RowKit Go.Shelf

theorem u8_bounds {x : Int} (h : (Lit.int .u8 x).wf = true) : 0 ≤ x ∧ x ≤ 255 := by
  have e1 : IntKind.min .u8 = 0 := rfl
  have e2 : IntKind.max .u8 = 255 := rfl
  simp only [Lit.wf, Bool.and_eq_true, decide_eq_true_eq, e1, e2] at h
  exact h
theorem print_sealed (p : Pic) : sealed (printB p) := by
  obtain ⟨h1, h2, h3⟩ := seal_split (bodyB p)
  refine ⟨?_, ?_⟩
  · unfold printB bodyB
    rw [List.length_append, List.length_append, head_length, beB_length]
    omega
  · unfold printB
    rw [h2, h3]
/-- One byte turned: the bytes are no picture's. -/
theorem turned_parse (p : Pic) (i : Nat) (c : UInt8) (hc : (printB p)[i]? = some c) (t : Nat) (ht : 0 < t) (ht2 : t < 256) :
    parseM ((printB p).set i (UInt8.ofNat (c.toNat ^^^ t))) = .err (.fault tParse ⟨#[]⟩ (.no 8)) := by
  have hi : i < (printB p).length := (List.getElem?_eq_some_iff.1 hc).1
  have hci : (printB p)[i] = c := (List.getElem?_eq_some_iff.1 hc).2
  have hsp : printB p = (printB p).take i ++ c :: (printB p).drop (i + 1) := by
    rw [← hci, List.getElem_cons_drop, List.take_append_drop]
  have hne : UInt8.ofNat (c.toNat ^^^ t) ≠ c := by
    intro h
    have h1 : c.toNat ^^^ t < 256 := Nat.xor_lt_two_pow (n := 8) (UInt8.toNat_lt c) ht2
    have h2 := congrArg UInt8.toNat h
    rw [UInt8.toNat_ofNat', Nat.mod_eq_of_lt h1] at h2
    have h3 : c.toNat ^^^ t = c.toNat ^^^ 0 := by rw [h2, Nat.xor_zero]
    have := xor_right_inj h3
    omega
  have hset : (printB p).set i (UInt8.ofNat (c.toNat ^^^ t)) = (printB p).take i ++ UInt8.ofNat (c.toNat ^^^ t) :: (printB p).drop (i + 1) := by
    rw [List.set_eq_take_append_cons_drop, if_pos hi]
  have hs := print_sealed p
  rw [hsp] at hs
  unfold parseM
  rw [hset, if_pos (unsealed hne hs)]
theorem Parse_turned (p : Pic) (i : Nat) (c : UInt8) (hc : (printB p)[i]? = some c) (t : Nat) (ht : 0 < t) (ht2 : t < 256) (hl : (printB p).length ≤ 90000) (w : World) :
    Calls Tryd.prog 14 #[.string ⟨((printB p).set i (UInt8.ofNat (c.toNat ^^^ t))).toArray⟩] w fun r w' => ∃ u, r = .returned (.tuple #[.agg #[.int .i64 0, .int .i64 0, .int .i64 0, .int .i64 0, .int .i64 0, .int .i64 0, .int .i64 0, .int .i64 0, .int .i64 0, .slice none 0 0], u]) ∧ Keep w w' ∧ ErrAt w' (.fault ⟨#[112, 97, 114, 115, 101]⟩ ⟨#[]⟩ (.no 8)) u := by
  have hm := turned_parse p i c hc t ht ht2
  refine (Snap_Parse ⟨((printB p).set i (UInt8.ofNat (c.toNat ^^^ t))).toArray⟩ (by rw [ba_size, List.length_set]; exact hl) w).mono ?_
  have e : (⟨((printB p).set i (UInt8.ofNat (c.toNat ^^^ t))).toArray⟩ : ByteArray).data.toList = (printB p).set i (UInt8.ofNat (c.toNat ^^^ t)) := by simp
  rintro r w' ⟨hk, ⟨e', u, hm', rfl, he⟩ | ⟨q, v, hm', _⟩⟩
  · rw [e, hm] at hm'
    cases hm'
    exact ⟨u, rfl, hk, he⟩
  · rw [e, hm] at hm'
    cases hm'
theorem print_len {p : Pic} (hp : FewP p) : 91 ≤ (printB p).length ∧ (printB p).length ≤ 90000 := by
  unfold printB bodyB
  rw [List.length_append, List.length_append, head_length, beB_length]
  have := flat_length p.items hp.item
  have := hp.len
  omega
set_option maxRecDepth 100000 in
set_option maxHeartbeats 4000000 in
theorem walk_SnapSeals (p : Pic) (v : Value) (a : Int) (t : Int) (W : World) (hE : Env W) (hv : ItemsAt W v p.items) (hf : PicFits p) (ha : i64ok a) (ht0 : 0 ≤ t) (ht1 : t ≤ 255) :
    Calls Tryd.prog 5 #[.agg (picCells p v), .int .i64 a, .int .u8 t] W fun r w' => r = .returned (.bool true) ∧ Holds W w' [] := by
  have hE := hide hE
  have H0 := (Holds.start W).alloc (o := .cells (picCells p v) 26)
  simp only [picCells] at H0
  have H0 := hide H0
  have cF := hide (fun w hv' => Few_val p v w hv' hf.len)
  have cP := hide (fun w hv' hp => Snap_Print p v w hv' hp)
  have hv := hide hv
  have hf := hide hf
  simp only [picCells] at cF cP
  unfold picCells
  by_cases hfew : FewL p.items
  · have hb := hide (decide_eq_true hfew)
    have hp := hide (hfew.few hf.out)
    clear hfew
    by_cases hg0 : 0 ≤ a
    · by_cases hg1 : t = 0
      · subst hg1
        go_enter Tryd.func5, Tryd.ntmps5
        go_wp2_with (first
          | (go_at_call 9; (with_reducible refine (awake16 _ (hE.out.keep H0.out.toKeep)).mono ?_); rintro r w1 ⟨rfl, h⟩; have H1 := hide (H0.out.keep h); obtain ⟨c0, c1, c2, c3, c4, c5, c6, c7, c8, c9⟩ := ten_cells H1.out; clear h)
          | (go_at_call 10; (with_reducible refine (cF.out _ (hv.out.keep H1.out.toKeep) _ hb.out).mono ?_); rintro r w2 ⟨rfl, h⟩; have H2 := hide (H1.out.keep h); obtain ⟨c0, c1, c2, c3, c4, c5, c6, c7, c8, c9⟩ := ten_cells H2.out; clear h))
        go_ret
        exact ⟨rfl, H2.out.nil⟩
      · obtain ⟨T, rfl⟩ : ∃ T : Nat, t = T := ⟨t.toNat, by omega⟩
        have hT : ((T : Int) == 0) = false := by rw [beq_eq_false_iff_ne]; exact hg1
        have hT0 : 0 < T := by omega
        clear hg1
        obtain ⟨A, rfl⟩ : ∃ A : Nat, a = A := ⟨a.toNat, by omega⟩
        rcases wrapE_shape (picE0 p) with he | ⟨e, he⟩
        · have he : picE p = .nil := he
          have hpr : prS p = ⟨(printB p).toArray⟩ := by unfold prS; rw [he]; rfl
          have hlen := print_len hp.out
          obtain ⟨s0, hs0⟩ : ∃ s0 : ByteArray, ⟨(printB p).toArray⟩ = s0 := ⟨_, rfl⟩
          rw [hs0] at hpr
          rw [he, hpr] at cP
          have hd0 : s0.data.toList = printB p := by rw [← hs0]
          obtain ⟨n, hn⟩ : ∃ n, s0.size = n := ⟨_, rfl⟩
          have hnl : (printB p).length = n := by rw [← hd0, ← hn]; rfl
          rw [hnl] at hlen
          obtain ⟨i, hi⟩ : ∃ i, A % n = i := ⟨_, rfl⟩
          have hin : i < n := by rw [← hi]; exact Nat.mod_lt _ (by omega)
          have hm1 : (A : Int).tmod (n : Int) = (i : Int) := by rw [← hi]; rfl
          have hm2 : (A : Int) % (n : Int) = (i : Int) := by rw [← hi]; rfl
          have hin' : (i : Int) < (n : Int) := by omega
          obtain ⟨c, hc⟩ : ∃ c, (printB p)[i]? = some c := ⟨_, List.getElem?_eq_getElem (by omega)⟩
          have cQ := hide (Parse_turned p i c hc T hT0 (by omega) (by omega))
          have hcl := UInt8.toNat_lt c
          obtain ⟨d, hd⟩ : ∃ d, c.toNat ^^^ T = d := ⟨_, rfl⟩
          have hx : bits .xor .u8 (c.toNat : Int) (T : Int) = (d : Int) := by rw [bits_xor_u8 _ _ hcl (by omega), hd]
          have hdl : d < 256 := by rw [← hd]; exact Nat.xor_lt_two_pow (n := 8) hcl (by omega)
          obtain ⟨L, hL⟩ : ∃ L, (printB p).set i (UInt8.ofNat (c.toNat ^^^ T)) = L := ⟨_, rfl⟩
          rw [hL] at cQ
          have hLn : L.length = n := by rw [← hL, List.length_set]; exact hnl
          have hLg : ∀ j e, L[j]? = some e → (j = i ∧ e.toNat = d) ∨ (j ≠ i ∧ (printB p)[j]? = some e) := fun j e hj => by
            rw [← hL, List.getElem?_set] at hj
            by_cases hij : i = j
            · subst hij
              rw [if_pos rfl, if_pos (by omega)] at hj
              cases hj
              exact .inl ⟨rfl, by rw [hd, UInt8.toNat_ofNat']; exact Nat.mod_eq_of_lt hdl⟩
            · rw [if_neg hij] at hj
              exact .inr ⟨fun h => hij h.symm, hj⟩
          have hLg := hide hLg
          have hLn := hide hLn
          have hd0 := hide hd0
          have hc := hide hc
          obtain ⟨ct, hct⟩ : ∃ ct, c.toNat = ct := ⟨_, rfl⟩
          rw [hct] at hx hcl
          have hct := hide hct
          have hnN := hide hn
          have hnlH := hide hnl
          have hne : ¬ n = 0 := by omega
          have hr0 := fun w => Lib.run_convert_string_bytes (P := Tryd.prog) w 9 50 5 s0 Tryd.underlying9 Tryd.underlying50 Tryd.underlying5
          rw [hn] at hr0
          have hr0 := hide hr0
          clear hs0 hi hd hL hnl he hpr
          go_enter Tryd.func5, Tryd.ntmps5
          go_wp2_with (first
            | (go_at_call 9; (with_reducible refine (awake16 _ (hE.out.keep H0.out.toKeep)).mono ?_); rintro r w1 ⟨rfl, h⟩; have H1 := hide (H0.out.keep h); obtain ⟨c0, c1, c2, c3, c4, c5, c6, c7, c8, c9⟩ := ten_cells H1.out; clear h)
            | (go_at_call 10; (with_reducible refine (cF.out _ (hv.out.keep H1.out.toKeep) _ hb.out).mono ?_); rintro r w2 ⟨rfl, h⟩; have H2 := hide (H1.out.keep h); obtain ⟨c0, c1, c2, c3, c4, c5, c6, c7, c8, c9⟩ := ten_cells H2.out; clear h)
            | (go_at_call 11; (with_reducible refine (cP.out _ (hv.out.keep H2.out.toKeep) hp.out).mono ?_); rintro r w3 ⟨u, rfl, h, rfl⟩; have H3 := hide (H2.out.keep h); have hr3 := hr0.out w3; clear h))
          have H4 := H3.out.bytes 5 s0
          have hbc : ∀ j (x : UInt8), (printB p)[j]? = some x → (Lib.bytesCells w3 5 s0)[j]? = some (Value.int .u8 x.toNat) := fun j x hj => by
            have hjl : j < s0.size := by
              have := (List.getElem?_eq_some_iff.1 hj).1
              rw [hnN.out, ← hnlH.out]; exact this
            have := Lib.bytesWorld_cell w3 5 s0 j hjl
            rw [hd0.out] at this
            simpa [World.cell?, H4.block, List.getD, hj] using this
          have hbs : n ≤ (Lib.bytesCells w3 5 s0).size := by
            have h1 := hbc (n - 1) _ (List.getElem?_eq_getElem (by rw [hnlH.out]; omega))
            have := (Array.getElem?_eq_some_iff.1 h1).1
            omega
          obtain ⟨wb, hwb⟩ : ∃ wb, Lib.bytesWorld w3 5 s0 = wb := ⟨_, rfl⟩
          obtain ⟨cs, hcs⟩ : ∃ cs, Lib.bytesCells w3 5 s0 = cs := ⟨_, rfl⟩
          rw [hwb, hcs] at H4
          rw [hcs] at hbc hbs
          rw [hwb]
          obtain ⟨bb, hbb⟩ : ∃ bb, w3.heap.size = bb := ⟨_, rfl⟩
          rw [hbb] at H4
          simp only [hbb]
          have g0 : wb.cell? ⟨bb, i, none⟩ = some (.int .u8 ct) := by rw [← hct.out]; exact H4.cell (hbc i c hc.out)
          have g1 : wb.frozen? ⟨bb, i, none⟩ = false := by
            simp only [World.frozen?, H4.block, Bool.and_eq_false_iff, decide_eq_false_iff_not]
            left; omega
          have H5 := (H4.setCell (off := i) (v := .int .u8 d)).drew
          have hcv : (convert 50 9 (.slice (some ⟨bb, 0, none⟩) n (grownCap w3 n 0 5))).run Tryd.prog (wb.setCell ⟨bb, i, none⟩ (.int .u8 d)).drew = .ok (.string ⟨L.toArray⟩) (wb.setCell ⟨bb, i, none⟩ (.int .u8 d)).drew := by
            refine turned_text Tryd.underlying50 Tryd.underlying5 Tryd.underlying9 bb _ L n hLn.out fun j e hj => ?_
            refine H5.cell ?_
            rcases hLg.out j e hj with ⟨rfl, rfl⟩ | ⟨hji, hj'⟩
            · rw [Array.getElem?_setIfInBounds_self_of_lt (by omega)]
            · rw [Array.getElem?_setIfInBounds_ne (fun h => hji h.symm)]
              exact hbc j e hj'
          have H5 := hide H5
          clear hwb hcs hbb H4 hbc hbs hr3
          go_region_law (fail)
          all_goals
            go_wp2_with (first
              | (go_at_call 14; (with_reducible refine (cQ.out _).mono ?_); rintro r w6 ⟨u, rfl, h, he⟩; have H6 := hide ((H5.out.keep h).alloc' (o := .cells #[.int .i64 0, .int .i64 0, .int .i64 0, .int .i64 0, .int .i64 0, .int .i64 0, .int .i64 0, .int .i64 0, .int .i64 0, .slice none 0 0] 26)); have he := hide (he.keep ((Keep.refl w6).alloc (o := .cells #[.int .i64 0, .int .i64 0, .int .i64 0, .int .i64 0, .int .i64 0, .int .i64 0, .int .i64 0, .int .i64 0, .int .i64 0, .slice none 0 0] 26))); clear h)
              | (go_at_call 16; (with_reducible refine (Wraps_hit _ _ 8 _ _ (hE.out.keep H6.out.toKeep) (by decide) he.out).mono ?_); rintro r wn ⟨rfl, h⟩; have H7 := hide (H6.out.keep h)))
            go_ret
            exact ⟨rfl, H7.out.nil⟩
        · have he : picE p = .fault tSnap ⟨#[]⟩ e := he
          have hpr : prS p = ⟨#[]⟩ := by unfold prS; rw [he]; rfl
          rw [he, hpr] at cP
          go_enter Tryd.func5, Tryd.ntmps5
          go_wp2_with (first
            | (go_at_call 9; (with_reducible refine (awake16 _ (hE.out.keep H0.out.toKeep)).mono ?_); rintro r w1 ⟨rfl, h⟩; have H1 := hide (H0.out.keep h); obtain ⟨c0, c1, c2, c3, c4, c5, c6, c7, c8, c9⟩ := ten_cells H1.out; clear h)
            | (go_at_call 10; (with_reducible refine (cF.out _ (hv.out.keep H1.out.toKeep) _ hb.out).mono ?_); rintro r w2 ⟨rfl, h⟩; have H2 := hide (H1.out.keep h); obtain ⟨c0, c1, c2, c3, c4, c5, c6, c7, c8, c9⟩ := ten_cells H2.out; clear h)
            | (go_at_call 11; (with_reducible refine (cP.out _ (hv.out.keep H2.out.toKeep) hp.out).mono ?_); rintro r w3 ⟨u, rfl, h, hu⟩; have H3 := hide (H2.out.keep h); obtain ⟨bf, ve, rfl, _⟩ := hu; clear h))
          go_ret
          exact ⟨rfl, H3.out.nil⟩
    · have hg0' : a < 0 := by omega
      go_enter Tryd.func5, Tryd.ntmps5
      go_wp2_with (first
        | (go_at_call 9; (with_reducible refine (awake16 _ (hE.out.keep H0.out.toKeep)).mono ?_); rintro r w1 ⟨rfl, h⟩; have H1 := hide (H0.out.keep h); obtain ⟨c0, c1, c2, c3, c4, c5, c6, c7, c8, c9⟩ := ten_cells H1.out; clear h)
        | (go_at_call 10; (with_reducible refine (cF.out _ (hv.out.keep H1.out.toKeep) _ hb.out).mono ?_); rintro r w2 ⟨rfl, h⟩; have H2 := hide (H1.out.keep h); obtain ⟨c0, c1, c2, c3, c4, c5, c6, c7, c8, c9⟩ := ten_cells H2.out; clear h))
      go_ret
      exact ⟨rfl, H2.out.nil⟩
  · have hb := hide (decide_eq_false hfew)
    clear hfew
    go_enter Tryd.func5, Tryd.ntmps5
    go_wp2_with (first
      | (go_at_call 9; (with_reducible refine (awake16 _ (hE.out.keep H0.out.toKeep)).mono ?_); rintro r w1 ⟨rfl, h⟩; have H1 := hide (H0.out.keep h); obtain ⟨c0, c1, c2, c3, c4, c5, c6, c7, c8, c9⟩ := ten_cells H1.out; clear h)
      | (go_at_call 10; (with_reducible refine (cF.out _ (hv.out.keep H1.out.toKeep) _ hb.out).mono ?_); rintro r w2 ⟨rfl, h⟩; have H2 := hide (H1.out.keep h); clear h))
    go_ret
    exact ⟨rfl, H2.out.nil⟩
theorem SnapSeals_at : LawAt 5 Tryd.f5 := by
  intro W args hE hA
  rw [Tryd.params5] at hA
  obtain ⟨v0, vs0, e0, a0, hA⟩ := args_cons hA
  obtain ⟨v1, vs1, rfl, a1, hA⟩ := args_cons hA
  obtain ⟨v2, vs2, rfl, a2, hA⟩ := args_cons hA
  obtain rfl := args_nil hA
  obtain ⟨p, u, rfl, hv, hf⟩ := pic_of_arg a0
  obtain ⟨a, rfl, wa⟩ := arg_int Tryd.underlying3 a1
  obtain ⟨t, rfl, wt⟩ := arg_int Tryd.underlying5 a2
  obtain rfl : args = #[.agg (picCells p u), .int .i64 a, .int .u8 t] := by cases args; simpa using e0
  exact walk_SnapSeals p u a t W hE hv hf (i64_bounds wa) (u8_bounds wt).1 (u8_bounds wt).2
set_option maxRecDepth 100000 in
theorem SnapSeals_lifted (os : Os) (started : os.Started) (H : Type) (enc : TypeId × Value → H) (F : Stop.Interp) :
    ReturnsInHanded {} Tryd.checked os 5 .any ((OpenSpec.ofChange Rows.snapSealsSpec).preRow enc Tryd.prog Tryd.f5 Rows.snapSealsRow.domain false Rows.snapSealsRow.laid) (((OpenSpec.ofChange Rows.snapSealsSpec).at F).post enc Tryd.prog Tryd.f5 false true false false) := by
  have hx : DataW.whole enc Tryd.prog ((laidWorld os).forCall (fun _ _ => 0) ⟨#[], #[.agg (picCells noPic (.slice none 0 0)), .int .i64 0, .int .u8 0], []⟩).memory Tryd.f5.params.toList Rows.snapSealsSpec.vars false (#[.agg (picCells noPic (.slice none 0 0)), .int .i64 0, .int .u8 0] : Array Value).toList 16 = some ([.agg [.agg [.lit (.int .i64 0), .lit (.int .i64 0), .lit (.int .i64 0), .lit (.int .i64 0), .lit (.int .i64 0), .lit (.int .i64 0), .lit (.int .i64 0)], .lit (.int .i64 0), .lit (.int .i64 0), .nil], .lit (.int .i64 0), .lit (.int .u8 0)], [], []) := by kernel_rfl
  refine returnsInHanded_of_row (C := Tryd.checked) (s := OpenSpec.ofChange Rows.snapSealsSpec) own started (by kernel_rfl) Tryd.func5
    (witness_row_at (enc := enc) (C := Tryd.checked) false (laidWorld os) #[.agg (picCells noPic (.slice none 0 0)), .int .i64 0, .int .u8 0] rfl (by kernel_rfl) (by kernel_rfl) (by kernel_rfl)
      (OpenSpec.preRow_of_cond 16 hx (by kernel_rfl) (fun k hk => by cases hk) (by kernel_rfl) (laidWorld_met os _))) ?_
  intro W base args ds gs before hval hW _ _ _ hL _ _
  exact law_post rfl rfl (by intro H ds h; have h' : ds.length = 3 := h; match ds, h' with | [_, _, _], _ => rfl) (by decide +kernel) SnapSeals_at (env_of_laid hL) hval hW
theorem SnapSeals_said : Rows.SnapSealsSaid :=
  OpenClaim.holds_of_cond 5 Tryd.f5 rfl rfl rfl rfl rfl rfl rfl ⟨rfl, rfl, rfl, rfl, rfl⟩ rfl rfl rfl rfl rfl (by kernel_rfl) Tryd.func5 (by kernel_rfl)
    (of_decide_eq_true (by kernel_rfl)) (by unfold Func.isWrapper; first | (rw [if_pos (by decide +kernel)]; kernel_rfl) | (rw [if_neg (by decide +kernel)]; exact ⟨rfl, rfl⟩))
    (fun os started H enc _ F => by rw [OpenClaim.pre_eq_preRow]; exact SnapSeals_lifted os started H enc F)
theorem SnapSeals_plain (f : FuncId) (fn : Func) (hf : Tryd.pinned.checked.prog.funcNamed "cachewise/cachewiselaw16.SnapSeals" = some f) (hfn : Tryd.pinned.checked.prog.funcs[f]? = some fn) :
    true = Tryd.pinned.checked.prog.looks [] ∧ ∀ (j : Nat) t, fn.params[j]? = some t → Tryd.pinned.checked.prog.wantsStandIn t = false := by
  obtain rfl : f = 5 := Option.some.inj ((show Tryd.prog.funcNamed "cachewise/cachewiselaw16.SnapSeals" = some 5 by kernel_rfl).symm.trans hf) |>.symm
  obtain rfl : fn = Tryd.f5 := (Option.some.inj (Tryd.func5.symm.trans hfn)).symm
  refine ⟨by kernel_rfl, fun j t ht => ?_⟩
  have hall : ∀ t, t ∈ Tryd.f5.params.toList → Tryd.prog.wantsStandIn t = false := by decide +kernel
  exact hall t (by simpa using Array.mem_of_getElem? ht)
theorem SnapSeals_card : Rows.SnapSealsCardSaid :=
  Claim7.holds_tied_plain_at .later [] _ _ _ _ SnapSeals_said (fun _ h => by cases h) (by kernel_rfl) (fun _ h => by cases h) snapSeals_row_tie rfl ⟨rfl, rfl⟩ (by kernel_rfl) rfl SnapSeals_plain (by kernel_rfl)
end Go.Proofs.YtggeppmiifkikaaDoor
