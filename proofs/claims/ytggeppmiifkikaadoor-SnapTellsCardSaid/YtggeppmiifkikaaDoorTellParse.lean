/- The document's reading of bytes. -/
import Derived.Test.YtggeppmiifkikaaDoorTellParse0
namespace Go.Proofs.YtggeppmiifkikaaDoor
open Go Go.RowKit Go.Shelf

/-- What is told of the bytes between the head and the hash. -/
def RefP (r0 : List UInt8) (w : World) (r : Ending) (w' : World) : Prop :=
  (decD r0 = none ∧ RefNo 2 w r w') ∨ ∃ p, decD r0 = some p ∧ ((codeP p ≠ 0 ∧ RefNo (codeP p) w r w') ∨
    (codeP p = 0 ∧ ∃ v, r = .returned (.tuple #[.agg (picCells p v), .int .i64 0]) ∧ Holds w w' [OwnRefs v p.items]))
set_option maxRecDepth 100000 in
set_option maxHeartbeats 8000000 in
theorem Ref_Parse_main (s : ByteArray) (m : Nat) (hs : s.size = m + 8) (h3 : 3 ≤ m) (h5 : m ≤ 99000) (heq : beB (hashN (s.extract 0 m).data.toList) 8 = (s.extract m (m + 8)).data.toList) (hpre : (s.extract 0 3).data.toList = hd0) (r0 : List UInt8) (hr0 : s.extract 3 m = ⟨r0.toArray⟩) (hrb : r0.length ≤ 100000) (w : World) :
    Calls Tryd.prog 15 #[.string s] w fun r w' => RefP r0 w r w' := by
  have z3 : 3 ≤ s.size := by omega
  have l0 : 0 < s.size := by omega
  have l1 : 1 < s.size := by omega
  have l2 : 2 < s.size := by omega
  obtain ⟨b0, hb0⟩ : ∃ b, (s[0]'l0).toNat = b := ⟨_, rfl⟩
  obtain ⟨b1, hb1⟩ : ∃ b, (s[1]'l1).toNat = b := ⟨_, rfl⟩
  obtain ⟨b2, hb2⟩ : ∃ b, (s[2]'l2).toNat = b := ⟨_, rfl⟩
  rw [pre_cases s z3 b0 b1 b2 hb0 hb1 hb2] at hpre
  obtain ⟨rfl, rfl, rfl⟩ := hpre
  clear z3
  obtain ⟨n, hn⟩ : ∃ n, s.size = n := ⟨_, rfl⟩
  have hnm : n = m + 8 := by rw [← hn]; exact hs
  rw [← hnm] at heq
  have f1 : IntKind.i64.wrap ((n : Int) - 8) = (m : Int) := by rw [IntWalk.i64_in _ (by omega)]; omega
  have f2 : decide ((n : Int) < 11) = false := decide_eq_false (by omega)
  have f3 : (m : Int) ≤ n := by omega
  have f4 : (3 : Int) ≤ m := by omega
  have hH := hide (Ref_HashK (s.extract 0 m) (by rw [ByteArray.size_extract]; omega))
  have hhl := hashN_lt (s.extract 0 m).data.toList
  obtain ⟨hv, hhv⟩ : ∃ hv, hashN (s.extract 0 m).data.toList = hv := ⟨_, rfl⟩
  rw [hhv] at hH hhl heq
  obtain ⟨sc, hsc⟩ : ∃ sc : ByteArray, ⟨(beB hv 8).toArray⟩ = sc := ⟨_, rfl⟩
  have nC := hide (fun w => Ref_bytes8 hv sc hsc hhl w)
  have hd : (sc.toList == (s.extract m n).toList) = true := by
    rw [beq_iff_eq, ByteArray.toList_eq, ByteArray.toList_eq, ← hsc]
    exact heq
  clear hs hnm heq hhv hsc
  have H0 := hide ((Holds.start w).alloc (o := .cells zeroP 37))
  obtain ⟨i, hi, hz0, hz1, hz2⟩ := info_parts infoRefItem
  replace hi := hide hi
  replace hz0 := hide hz0
  replace hz1 := hide hz1
  replace hz2 := hide hz2
  have hr0 := hide hr0
  have hrb := hide hrb
  go_enter Tryd.func15, Tryd.ntmps15
  go_wp2
  (refine wp_region_kept (by kernel_rfl) (by kernel_rfl) ?_; (repeat (go_big_quiet_step ((first | (go_at_call 32; with_reducible exact KeptOf.calls (hH.out _)) | (go_at_call 31; with_reducible exact KeptOf.calls (nC.out _)))))); refine wpQuiet_nil ?_; intro _ hw'; obtain ⟨uq, hw''⟩ := hw'; subst hw'')
  have HQ := hide (H0.out.keep uq.keep)
  go_wp2
  have H3 := HQ.out.alloc (o := .cells #[.int .i64 0, .int .i64 0, .int .i64 0, .int .i64 0, .int .i64 0, .int .i64 0, .int .i64 0, .int .i64 0, .int .i64 0, .int .i64 0] 75)
  rw [← ar_nil] at H3
  obtain ⟨rs, hrs⟩ : ∃ rs, w.heap.size = rs := ⟨_, rfl⟩
  obtain ⟨ab, hab⟩ : ∃ ab, uq.world.heap.size = ab := ⟨_, rfl⟩
  rw [hrs, hab] at H3
  simp only [hrs, hab]
  have H3 := hide H3
  clear hrs hab HQ H0
  go_loopw [0, 5, 6] (fun s' okv i wr => ∃ k : Nat, ∃ us r, ∃ okb : Bool, s' = .string ⟨List.toArray r⟩ ∧ okv = .bool okb ∧ i = .int .i64 k ∧ k ≤ 10 ∧ Hide (hdD k r0 = some (us, r)) ∧ Holds w wr [pts ab (.cells (arCells us) 75), pts rs (.cells zeroP 37)]) (fun _ _ i _ => (10 - intOf i).toNat)
  case atStart => exact ⟨0, [], r0, true, rfl, rfl, rfl, Nat.zero_le _, ⟨rfl⟩, H3.out⟩
  case round =>
    clear H3
    obtain ⟨k, us, r, okb, rfl, rfl, rfl, hk, hR, hh⟩ := hrel
    have H := hide hh
    clear hh
    have hrl := hide (Nat.le_trans (hdD_len hR.out).2 hrb.out)
    have hul := (hdD_len hR.out).1
    by_cases hlt : k < 10
    · have hlt' : (k : Int) < 10 := by omega
      have hsk := hide (fun v => ar_set us k v hul hlt)
      have hgk := hide (ar_get us k hul hlt)
      have hul := hide hul
      rcases hd : numD 8 r with _ | ⟨v, r1⟩
      · have hn := hide (dec_short hlt hR.out hd)
        have cN := hide (num8_no r hd hrl.out)
        clear hd
        go_wp2_with (go_at_call 37; (with_reducible refine (cN.out _).mono ?_); rintro e w3 ⟨rfl, h⟩; have H4 := H.out.keep h; have d1 := H4.free (off := k); have d0 := H4.cell hgk.out; have H5 := hide (H4.setCell (off := k) (v := .int .i64 0)).p1; clear h H4; obtain ⟨z0, z1, z2, z3, z4, z5, z6, z7, z8, z9⟩ := zero_all H5.out; obtain ⟨g0, g1, g2, g3, g4, g5, g6, g7, g8, g9⟩ := free_all H5.out)
        have h3 := hide (set10g H5.out (.int .i64 0) (.int .i64 0) (.int .i64 0) (.int .i64 0) (.int .i64 0) (.int .i64 0) (.int .i64 0) (.int .i64 0) (.int .i64 0) (.slice none 0 0))
        refine bodyPost_ret (ret_refpic h3.out rfl) rfl ?_
        exact .inl ⟨hn.out, rfl, h3.out.drop.toKeep⟩
      · have hN := hide (hdD_next hR.out hd)
        have cN := hide (num8_ok r r1 v hd hrl.out)
        clear hd
        go_wp2_with (go_at_call 37; (with_reducible refine (cN.out _).mono ?_); rintro e w3 ⟨rfl, h⟩; have H4 := H.out.keep h; have d1 := H4.free (off := k); have d0 := H4.cell hgk.out; have H5 := hide (H4.setCell (off := k) (v := .int .i64 v)); clear h H4)
        go_roundw
        case rel => exact ⟨k + 1, us ++ [v], r1, true, rfl, rfl, by go_num, hlt, hN, by rw [← hsk.out v]; exact H5.out⟩
        case measure => (simp [intOf] <;> omega)
    · obtain rfl : k = 10 := by omega
      rw [show ((10 : Nat) : Int) = 10 from rfl]
      obtain ⟨n0, n1, n2, n3, n4, n5, n6, n7, n8, n9, rfl⟩ := len10 hul
      have hsm := hdD_small hR.out
      have hn6 : n6 < 9223372036854775808 := hsm n6 (by simp)
      have hn9 : n9 < 9223372036854775808 := hsm n9 (by simp)
      have f6 : IntKind.i64.wrap ((n6 : Int) - 1) = (n6 : Int) - 1 := IntWalk.i64_in _ (by omega)
      have HT := H.out
      rw [ar_ten] at HT
      obtain ⟨a0, a1, a2, a3, a4, a5, a6, a7, a8, a9⟩ := ten_cells HT
      have HP := HT.alloc (o := .cells #[.int .i64 n0, .int .i64 n1, .int .i64 n2, .int .i64 n3, .int .i64 n4, .int .i64 n5, .int .i64 ((n6 : Int) - 1), .int .i64 n7, .int .i64 n8, .slice none 0 0] 37)
      have HP := hide (HP.ownNil 76 3).p1
      clear HT H hsm hul
      go_wp2
      obtain ⟨pb, hpb⟩ : ∃ pb, wr.heap.size = pb := ⟨_, rfl⟩
      rw [hpb] at HP
      simp only [hpb]
      clear hpb a0 a1 a2 a3 a4 a5 a6 a7 a8 a9
      go_loopw [0, 8] (fun s' i wr => ∃ k : Nat, ∃ xs r' u, s' = .string ⟨List.toArray r'⟩ ∧ i = .int .i64 k ∧ k ≤ n9 ∧ Hide (itsD k r = some (xs, r')) ∧ Holds w wr [pts pb (.cells #[.int .i64 n0, .int .i64 n1, .int .i64 n2, .int .i64 n3, .int .i64 n4, .int .i64 n5, .int .i64 ((n6 : Int) - 1), .int .i64 n7, .int .i64 n8, u] 37), OwnRow 76 3 u k (itCells xs), pts ab (.cells #[.int .i64 n0, .int .i64 n1, .int .i64 n2, .int .i64 n3, .int .i64 n4, .int .i64 n5, .int .i64 n6, .int .i64 n7, .int .i64 n8, .int .i64 n9] 75), pts rs (.cells zeroP 37)]) (fun _ i _ => (n9 - intOf i).toNat)
      case atStart => exact ⟨0, [], r, .slice none 0 0, rfl, rfl, Nat.zero_le _, ⟨rfl⟩, HP.out⟩
      case round =>
        clear HP
        obtain ⟨k, xs, r', u, rfl, rfl, hk, hI, hh⟩ := hrel
        have H := hide hh
        clear hh
        have hle := itsD_le hI.out
        have hrl' := hide (show r'.length ≤ 100000 by have := hrl.out; omega)
        have hkb : k ≤ 100000 := by have := hrl.out; omega
        have hxl := hide hle.2
        have a9 : wr.cell? ⟨ab, 9, none⟩ = some (.int .i64 n9) := H.out.p2.cell rfl
        clear hle
        by_cases hlt : k < n9
        · have hlt' : (k : Int) < n9 := by omega
          rcases hd : itD r' with _ | ⟨x, r1⟩
          · have hn := hide (dec_items hR.out hlt hI.out hd)
            have cN := hide (item_no r' hd hrl'.out)
            clear hd
            go_wp2_with (go_at_call 38; (with_reducible refine (cN.out _).mono ?_); rintro e w3 ⟨k', v', d', rfl, h⟩; have H5 := hide ((H.out.keep h).alloc' (o := .cells #[.string k', .string v', .int .i64 d'] 76)).p3; clear h; obtain ⟨z0, z1, z2, z3, z4, z5, z6, z7, z8, z9⟩ := zero_all H5.out; obtain ⟨g0, g1, g2, g3, g4, g5, g6, g7, g8, g9⟩ := free_all H5.out)
            have h3 := hide (set10g H5.out (.int .i64 0) (.int .i64 0) (.int .i64 0) (.int .i64 0) (.int .i64 0) (.int .i64 0) (.int .i64 0) (.int .i64 0) (.int .i64 0) (.slice none 0 0))
            refine bodyPost_ret (ret_refpic h3.out rfl) rfl ?_
            exact .inl ⟨hn.out, rfl, h3.out.drop.toKeep⟩
          · have hN := hide (itsD_succ hI.out hd)
            have cN := hide (item_ok r' r1 x hd hrl'.out)
            clear hd
            go_wp2_with (first
              | (go_at_call 38; (with_reducible refine (cN.out _).mono ?_); rintro e w3 ⟨rfl, h⟩; have H11 := hide ((H.out.keep h).alloc (o := .cells #[.string x.key, .string x.val, .int .i64 x.dl] 76)); clear h; have p9 := Holds.cell (off := 9) H11.out.p1 rfl; obtain ⟨q0, q1, q2⟩ := threeCells H11.out; have H12 := hide (H11.out.alloc' (o := .cells #[.string x.key, .string x.val, .int .i64 x.dl] 76)).p2)
              | (at_builtin; refine wpList_append_own_at _ rfl _ _ 35 rfl w.heap.size 76 i (.agg #[.string ⟨#[]⟩, .string ⟨#[]⟩, .int .i64 0]) 3 40 Tryd.underlying35 hi.out hz0.out hz1.out hz2.out rfl (by decide) _ k (itCells xs) rfl H12.out.ownsRow _ 1 _ [.string x.key, .string x.val, .int .i64 x.dl] rfl rfl (cells3_new _ _ _ _ _ _ (by simp)) (by simp [Value.oneCell']) (by simp only [maxLen]; omega) (by omega) H12.out.size ?_; intro vn wn o1 g1 _ hb1; obtain ⟨ao2, cap2, rfl⟩ := ownsShape o1; have H13 := hide (H12.out.grown o1 g1 (by rcases hb1 with hb1 | hb1 <;> first | exact .inl hb1 | exact .inr ⟨_, hb1, Nat.le_refl _⟩)); have y9 := Holds.free (off := 9) H13.out.p2; have p9' := Holds.cell (off := 9) H13.out.p2 rfl; clear o1 g1 hb1))
            go_roundw
            case rel => exact ⟨k + 1, xs ++ [x], r1, _, rfl, by go_num, hlt, hN, by rw [itCells_snoc]; exact (H13.out.p2.setCell (off := 9)).p2.drop⟩
            case measure => (simp [intOf] <;> omega)
        · obtain rfl : k = n9 := by omega
          obtain ⟨s', hs'⟩ : ∃ s' : ByteArray, ⟨r'.toArray⟩ = s' := ⟨_, rfl⟩
          have hse : s'.toList = r' := by rw [← hs', ByteArray.toList_eq]
          rw [hs']
          have hs' := hide hs'
          by_cases hr' : r' = []
          · subst hr'
            have hdec := hide (dec_all hR.out hI.out)
            obtain ⟨c0, c1, c2, c3, c4, c5, c6, c7, c8, c9⟩ := ten_cells H.out
            obtain ⟨ao, cap, rfl⟩ := ownsShape H.out.p1.ownsRow
            have hit := hide (H.out.p1.itemsRef hxl.out)
            have cR := hide (show Calls Tryd.prog 30 #[.agg #[.int .i64 n0, .int .i64 n1, .int .i64 n2, .int .i64 n3, .int .i64 n4, .int .i64 n5, .int .i64 ((n6 : Int) - 1), .int .i64 n7, .int .i64 n8, .slice ao k cap]] wr (fun r w' => r = .returned (.int .i64 (codeP (picOf [n0, n1, n2, n3, n4, n5, n6, n7, n8, k] xs))) ∧ Keep wr w') from Ref_Right (picOf [n0, n1, n2, n3, n4, n5, n6, n7, n8, k] xs) (.slice ao k cap) wr hit.out (by show xs.length ≤ _; rw [hxl.out]; exact hkb))
            obtain ⟨c, hc⟩ : ∃ c, codeP (picOf [n0, n1, n2, n3, n4, n5, n6, n7, n8, k] xs) = c := ⟨_, rfl⟩
            rw [hc] at cR
            have hc := hide hc
            by_cases h0 : c = 0
            · subst h0
              go_wp2_with (go_at_call 30; (with_reducible refine cR.out.mono ?_); rintro e w3 ⟨rfl, h⟩; have H5 := hide (H.out.keep h); clear h; obtain ⟨d0, d1, d2, d3, d4, d5, d6, d7, d8, d9⟩ := ten_cells H5.out; have H6 := hide H5.out.p3; obtain ⟨z0, z1, z2, z3, z4, z5, z6, z7, z8, z9⟩ := zero_all H6.out; obtain ⟨g0, g1, g2, g3, g4, g5, g6, g7, g8, g9⟩ := free_all H6.out)
              have h3 := hide (set10g H6.out (.int .i64 n0) (.int .i64 n1) (.int .i64 n2) (.int .i64 n3) (.int .i64 n4) (.int .i64 n5) (.int .i64 ((n6 : Int) - 1)) (.int .i64 n7) (.int .i64 n8) (.slice ao k cap))
              refine bodyPost_ret (ret_refpic h3.out rfl) rfl ?_
              exact .inr ⟨_, hdec.out, .inr ⟨hc.out, _, rfl, by unfold OwnRefs; rw [show (picOf [n0, n1, n2, n3, n4, n5, n6, n7, n8, k] xs).items = xs from rfl, hxl.out]; exact h3.out.p2.only⟩⟩
            · have h0' : (c == 0) = false := beq_eq_false_iff_ne.2 h0
              have h0 := hide h0
              go_wp2_with (go_at_call 30; (with_reducible refine cR.out.mono ?_); rintro e w3 ⟨rfl, h⟩; have H6 := hide (H.out.keep h).p3; clear h; obtain ⟨z0, z1, z2, z3, z4, z5, z6, z7, z8, z9⟩ := zero_all H6.out; obtain ⟨g0, g1, g2, g3, g4, g5, g6, g7, g8, g9⟩ := free_all H6.out)
              have h3 := hide (set10g H6.out (.int .i64 0) (.int .i64 0) (.int .i64 0) (.int .i64 0) (.int .i64 0) (.int .i64 0) (.int .i64 0) (.int .i64 0) (.int .i64 0) (.slice none 0 0))
              refine bodyPost_ret (ret_refpic h3.out rfl) rfl ?_
              exact .inr ⟨_, hdec.out, .inl ⟨by rw [hc.out]; exact h0.out, by rw [hc.out]; exact ⟨rfl, h3.out.drop.toKeep⟩⟩⟩
          · have hnil : s'.toList.isEmpty = false := by rw [hse]; cases r' <;> simp_all
            have hnil' : ¬ s'.toList = [] := by rw [hse]; exact hr'
            have hn := hide (dec_left hR.out hI.out hr')
            have H6 := hide H.out.p3
            obtain ⟨z0, z1, z2, z3, z4, z5, z6, z7, z8, z9⟩ := zero_all H6.out
            obtain ⟨g0, g1, g2, g3, g4, g5, g6, g7, g8, g9⟩ := free_all H6.out
            clear hr' hse
            go_wp2
            have h3 := hide (set10g H6.out (.int .i64 0) (.int .i64 0) (.int .i64 0) (.int .i64 0) (.int .i64 0) (.int .i64 0) (.int .i64 0) (.int .i64 0) (.int .i64 0) (.slice none 0 0))
            refine bodyPost_ret (ret_refpic h3.out rfl) rfl ?_
            exact .inl ⟨hn.out, rfl, h3.out.drop.toKeep⟩
/-- What the document's Parse answers. -/
def RefQ (m : PR) (w : World) (r : Ending) (w' : World) : Prop :=
  (∃ e, m = .err e ∧ RefNo (codeE e) w r w') ∨ (∃ p v, m = .ok p ∧ r = .returned (.tuple #[.agg (picCells p v), .int .i64 0]) ∧ Holds w w' [OwnRefs v p.items])
theorem Ref_Parse (s : ByteArray) (hs : s.size ≤ 90000) (w : World) :
    Calls Tryd.prog 15 #[.string s] w fun r w' => RefQ (parseM s.data.toList) w r w' := by
  by_cases h11 : s.size < 11
  · have hm : parseM s.data.toList = .err (.fault tParse ⟨#[]⟩ (.no 8)) := by
      unfold parseM
      rw [if_pos (fun h => by have := h.1; rw [ba_len] at this; omega)]
    refine (Ref_Parse_short s h11 w).mono ?_
    intro r w' h
    exact .inl ⟨_, hm, h⟩
  obtain ⟨m, hm⟩ : ∃ m, s.size = m + 8 := ⟨s.size - 8, by omega⟩
  have hl8 : s.data.toList.length - 8 = m := by rw [ba_len]; omega
  have e1 : (s.extract 0 m).data.toList = s.data.toList.take m := by rw [ext_list, List.drop_zero]
  have e2 : (s.extract m (m + 8)).data.toList = s.data.toList.drop m := by rw [ext_list, ← hm, ← ba_len, List.take_length]
  have e3 : (s.extract 0 3).data.toList = s.data.toList.take 3 := by rw [ext_list, List.drop_zero]
  by_cases hse : sealed s.data.toList
  · have hse' := hse.2
    rw [hl8, ← e1, ← e2] at hse'
    by_cases h3 : s.data.toList.take 3 = hd0
    · have hr0 : s.extract 3 m = ⟨(bodyOf s.data.toList).toArray⟩ := by rw [ext_ba]; unfold bodyOf; rw [hl8]
      have hrl : (bodyOf s.data.toList).length ≤ 100000 := by unfold bodyOf; rw [List.length_drop, List.length_take, ba_len]; omega
      refine (Ref_Parse_main s m hm (by omega) (by omega) hse' (by rw [e3]; exact h3) _ hr0 hrl w).mono ?_
      rintro r w' h
      unfold parseM
      rw [if_neg (fun h => h hse), if_neg (fun h => h h3)]
      rcases h with ⟨hd, h⟩ | ⟨p, hd, ⟨hn, h⟩ | ⟨hn, v, h, hi⟩⟩
      · rw [hd]
        exact .inl ⟨_, rfl, h⟩
      · rw [hd]
        exact .inl ⟨_, if_neg (fun hh => hn (code_zero.2 (picE_isNil hh))), h⟩
      · rw [hd]
        exact .inr ⟨p, v, if_pos (by rw [code_zero.1 hn]; rfl), h, hi⟩
    · refine (Ref_Parse_version s m hm (by omega) (by omega) hse' (by rw [e3]; exact h3) w).mono ?_
      intro r w' h
      refine .inl ⟨.fault tParse ⟨#[]⟩ (.no 9), ?_, h⟩
      unfold parseM
      rw [if_neg (fun h => h hse), if_pos h3]
  · have hse' : beB (hashN (s.extract 0 m).data.toList) 8 ≠ (s.extract m (m + 8)).data.toList := fun h => hse ⟨by rw [ba_len]; omega, by rw [hl8, ← e1, ← e2]; exact h⟩
    refine (Ref_Parse_seal s m hm (by omega) (by omega) hse' w).mono ?_
    intro r w' h
    refine .inl ⟨.fault tParse ⟨#[]⟩ (.no 8), ?_, h⟩
    unfold parseM
    rw [if_pos hse]
end Go.Proofs.YtggeppmiifkikaaDoor
