/- snap.Parse. -/
import Derived.Test.YtggeppmiifkikaaDoorSnapParse0
namespace Go.Proofs.YtggeppmiifkikaaDoor
open Go Go.RowKit Go.Shelf

set_option maxRecDepth 100000 in
set_option maxHeartbeats 4000000 in
theorem Parse_main (s : ByteArray) (m : Nat) (hs : s.size = m + 8) (h3 : 3 ≤ m) (h5 : m ≤ 99000) (heq : beB (hashN (s.extract 0 m).data.toList) 8 = (s.extract m (m + 8)).data.toList) (hpre : (s.extract 0 3).data.toList = hd0) (r0 : List UInt8) (hr0 : s.extract 3 m = ⟨r0.toArray⟩) (hrb : r0.length ≤ 10000000) (w : World) :
    Calls Tryd.prog 14 #[.string s] w fun r w' => ParseP r0 w r w' := by
  have hP := hide (HasPre s true (by omega) (by rw [beq_iff_eq, ByteArray.toList_eq]; exact hpre))
  clear hpre
  obtain ⟨n, hn⟩ : ∃ n, s.size = n := ⟨_, rfl⟩
  have hnm : n = m + 8 := by rw [← hn]; exact hs
  rw [← hnm] at heq
  have f1 : IntKind.i64.wrap ((n : Int) - 8) = (m : Int) := by rw [IntWalk.i64_in _ (by omega)]; omega
  have f2 : decide ((m : Int) < 3) = false := decide_eq_false (by omega)
  have f3 : (m : Int) ≤ n := by omega
  have f4 : (3 : Int) ≤ m := by omega
  have hH := hide (Draw_Hash (s.extract 0 m) (by rw [ByteArray.size_extract]; omega))
  have hhl := hashN_lt (s.extract 0 m).data.toList
  obtain ⟨hv, hhv⟩ : ∃ hv, hashN (s.extract 0 m).data.toList = hv := ⟨_, rfl⟩
  rw [hhv] at hH hhl heq
  obtain ⟨sc, hsc⟩ : ∃ sc : ByteArray, ⟨(beB hv 8).toArray⟩ = sc := ⟨_, rfl⟩
  have nC := hide (fun w => Num8_val hv sc hsc hhl w)
  have hd : (sc.toList == (s.extract m n).toList) = true := by
    rw [beq_iff_eq, ByteArray.toList_eq, ByteArray.toList_eq, ← hsc]
    exact heq
  clear hs hnm heq hhv hsc
  have H0 := hide ((Holds.start w).alloc (o := .cells zeroP 26))
  replace hr0 := hide hr0
  replace hrb := hide hrb
  obtain ⟨i, hi, hz0, hz1, hz2⟩ := info_parts infoItem
  replace hi := hide hi
  replace hz0 := hide hz0
  replace hz1 := hide hz1
  replace hz2 := hide hz2
  go_enter Tryd.func14, Tryd.ntmps14
  go_wp2
  (refine wp_region_kept (by kernel_rfl) (by kernel_rfl) ?_; (repeat (go_big_quiet_step ((first | (go_at_call 29; with_reducible exact KeptOf.calls (hH.out _)) | (go_at_call 27; with_reducible exact KeptOf.calls (nC.out _)))))); refine wpQuiet_nil ?_; intro _ hw'; obtain ⟨uq, hw''⟩ := hw'; subst hw'')
  have H1 := hide (H0.out.keep uq.keep)
  go_wp2_with (go_at_call 34; (with_reducible refine (hP.out _).mono ?_); rintro r w1 ⟨rfl, hkp⟩; have H2 := hide (H1.out.keep hkp); clear hkp)
  have H3 := H2.out
  obtain ⟨rs, hrs⟩ : ∃ rs, w.heap.size = rs := ⟨_, rfl⟩
  have H3 := ((((H3.alloc (o := .cells #[.string (s.extract 3 m)] 9)).alloc (o := .cells #[.bool false] 4)).alloc (o := .cells #[clo w1.heap.size (w1.heap.size + 1)] 79)).alloc (o := .cells zeroP 26)).alloc (o := .cells (ptrs (w1.heap.size + 1 + 1 + 1)) 82)
  simp only [World.size_alloc] at H3
  rw [hr0.out] at H3
  obtain ⟨rb, hrq⟩ : ∃ rb, w1.heap.size = rb := ⟨_, rfl⟩
  rw [hrq, hrs] at H3
  simp only [hrq, hrs]
  obtain ⟨bb, hbb⟩ : ∃ bb, rb + 1 = bb := ⟨_, rfl⟩
  rw [hbb] at H3
  simp only [hbb]
  obtain ⟨tb, htb⟩ : ∃ tb, bb + 1 = tb := ⟨_, rfl⟩
  rw [htb] at H3
  simp only [htb]
  obtain ⟨pb, hpb⟩ : ∃ pb, tb + 1 = pb := ⟨_, rfl⟩
  rw [hpb] at H3
  simp only [hpb]
  obtain ⟨ar, har⟩ : ∃ ar, pb + 1 = ar := ⟨_, rfl⟩
  rw [har] at H3
  simp only [har]
  rw [hr0.out]
  clear hrs hrq hbb htb hpb har
  have H4 := hide (Holds.toSt H3.p3.p4).p3
  clear H3
  go_loopw [64] (fun i wr => ∃ k : Nat, ∃ vs r b, i = .int .i64 k ∧ k ≤ 9 ∧ Hide (HdR k r0 vs r b) ∧ Holds w wr [pts tb (.cells #[clo rb bb] 79), St rb bb r b, pts ar (.cells (ptrs pb) 82), pts pb (.cells (hdCells vs) 26), pts rs (.cells zeroP 26)]) (fun i _ => (9 - intOf i).toNat)
  case atStart => exact ⟨0, [], r0, false, rfl, Nat.zero_le _, ⟨HdR.zero r0⟩, H4.out⟩
  case round =>
    obtain ⟨k, vs, r, b, rfl, hk, hR, hh⟩ := hrel
    have H := hide hh
    clear hh
    have hrl : Hide (r.length ≤ 10000000) := ⟨Nat.le_trans hR.out.le hrb.out⟩
    by_cases hlt : k < 9
    · have hlt' : (k : Int) < 9 := by omega
      have hc := H.out.p2.cell (ptr_get pb k hlt)
      have hgk := hide (hd_get vs k hR.out.len hlt)
      have hsk := hide (fun v => hd_set vs k v hR.out.len hlt)
      go_wp2_with (go_at_call 36; (with_reducible refine (Get8 hrl.out H.out).mono ?_); rintro e w3 ⟨v, r1, b1, rfl, h3, hg⟩; have d0 := h3.p3.cell hgk.out; have d1 := h3.p3.free (off := k); have h3 := hide h3)
      go_roundw
      case rel => exact ⟨k + 1, vs ++ [v], r1, b1, by go_num, hlt, ⟨hR.out.succ hg.out⟩, by rw [← hsk.out v]; exact h3.out.p3.setCell.p3.p3.p3⟩
      case measure => (simp [intOf] <;> omega)
    · obtain rfl : k = 9 := by omega
      rw [show ((9 : Nat) : Int) = 9 from rfl]
      obtain ⟨v0, v1, v2, v3, v4, v5, v6, v7, v8, rfl⟩ := len9 hR.out.len
      have H5 := H.out.p3
      have d6 : wr.cell? ⟨pb, 6, none⟩ = some (.int .i64 v6) := H5.cell rfl
      have e6 := H5.free (off := 6)
      obtain ⟨v6', hv6⟩ : ∃ v6', IntKind.i64.wrap (v6 - 1) = v6' := ⟨_, rfl⟩
      have H6 := hide (show Holds w (wr.setCell ⟨pb, 6, none⟩ (.int .i64 v6')) [pts tb (.cells #[clo rb bb] 79), St rb bb r b, pts pb (.cells (picCells ⟨⟨v0, v1, v2, v3, v4, v5, v6'⟩, v7, v8, []⟩ (.slice none 0 0)) 26), pts rs (.cells zeroP 26)] from (H5.setCell.p3.drop.p2.p2))
      clear H5 H4 H
      have hrl2 : r.length ≤ 10000000 := Nat.le_trans hR.out.le hrb.out
      obtain ⟨sr, hsr⟩ : ∃ sr : ByteArray, ⟨r.toArray⟩ = sr := ⟨_, rfl⟩
      obtain ⟨L, hL⟩ : ∃ L, r.length = L := ⟨_, rfl⟩
      have hsz : sr.size = L := by rw [← hsr, ← hL]; exact ba_size r
      have c5 := H6.out.p1.st.cell (off := 0) rfl
      rw [hsr] at c5
      have H7 := hide H6.out.drew
      rw [hL] at hrl2
      have fL : IntKind.i64.wrap ((L : Int) + 1) = (L : Int) + 1 := IntWalk.i64_in _ (by omega)
      have hL := hide hL
      clear hsr
      go_upto_region 16 with fail
      go_cut [85, 86] (fun c i wx => i = .int .i64 0 ∧ ∃ v r1 b1, ∃ M : Nat, c = .int .i64 M ∧ Hide (MOK v r1.length M) ∧ Hide (GetR 8 r b v r1 b1) ∧ Holds w wx [pts tb (.cells #[clo rb bb] 79), St rb bb r1 b1, pts pb (.cells (picCells ⟨⟨v0, v1, v2, v3, v4, v5, v6'⟩, v7, v8, []⟩ (.slice none 0 0)) 26), pts rs (.cells zeroP 26)])
      case first =>
        go_region_with ((go_at_call 36; (with_reducible refine (Get8 (by rw [hL.out]; exact hrl2) H7.out).mono ?_); rintro e w3 ⟨v, r1, b1, rfl, h3, hg⟩; obtain ⟨sr1, hsr1⟩ : ∃ sr1 : ByteArray, ⟨r1.toArray⟩ = sr1 := ⟨_, rfl⟩; obtain ⟨L1, hL1⟩ : ∃ L1, r1.length = L1 := ⟨_, rfl⟩; have hsz1 : sr1.size = L1 := (by rw [← hsr1, ← hL1]; exact ba_size r1); have c5b : w3.cell? ⟨rb, 0, none⟩ = some (.string sr1) := (by rw [← hsr1]; exact h3.p1.st.cell rfl); have fL1 : IntKind.i64.wrap ((L1 : Int) + 1) = (L1 : Int) + 1 := IntWalk.i64_in _ (by have := hg.out.le; rw [hL1, hL.out] at this; omega); have h3 := hide h3; have hL1 := hide hL1; clear hsr1))
        all_goals
          go_wp2
          have hle := hg.out.le
          rw [hL1.out, hL.out] at hle
          obtain ⟨Ma, ha, hMa⟩ := mok v L L1 hle hrl2
          obtain ⟨Mb, hb, hMb⟩ := mok v L1 L1 (Nat.le_refl _) (Nat.le_trans hle hrl2)
          go_meet
          case rel =>
            rw [← hL1.out] at hMa hMb
            first | exact ⟨rfl, v, r1, b1, Ma, congrArg (Value.int .i64) ha, ⟨hMa⟩, hg, h3.out⟩ | exact ⟨rfl, v, r1, b1, Mb, congrArg (Value.int .i64) hb, ⟨hMb⟩, hg, h3.out⟩
      case rest =>
        obtain ⟨rfl, v, r1, b1, M, rfl, hM, hg, hc⟩ := hcut
        have H8 := hide hc
        have H9 := hide ((H8.out.ownNil 53 3).p3.p3.p3)
        go_wp2
        go_loopw [86] (fun i wr => ∃ k : Nat, ∃ xs r' b' u, i = .int .i64 k ∧ k ≤ M ∧ Hide (ItR b1 r1 k xs r' b') ∧ Holds w wr [pts tb (.cells #[clo rb bb] 79), St rb bb r' b', pts pb (.cells (picCells ⟨⟨v0, v1, v2, v3, v4, v5, v6'⟩, v7, v8, []⟩ u) 26), OwnRow 53 3 u k (itCells xs), pts rs (.cells zeroP 26)]) (fun i _ => (M - intOf i).toNat)
        case atStart => exact ⟨0, [], r1, b1, .slice none 0 0, rfl, Nat.zero_le _, ⟨⟨fun h => ⟨rfl, h⟩, fun h => h, rfl, Nat.le_refl _⟩⟩, H9.out⟩
        case round =>
          obtain ⟨k, xs, r', b', u, rfl, hk, hI, hh⟩ := hrel
          have H := hide hh
          clear hh
          by_cases hlt : k < M
          · have hlt' : (k : Int) < M := by omega
            have hll : Hide (r'.length ≤ 10000000) := ⟨by have := hI.out.le; have := hg.out.le; have := hR.out.le; have := hrb.out; omega⟩
            have Ha0 := hide H.out.drew
            have Hb0 := hide ((H.out.alloc (o := .cells zeroI 53)).p2.p2.drew)
            have tS : Hide (∀ w' F, Holds w w' (pts tb (.cells #[clo rb bb] 79) :: F) → w'.cell? ⟨tb, 0, none⟩ = some (.func (.func 35) #[] #[.pointer (some ⟨rb, 0, none⟩), .pointer (some ⟨bb, 0, none⟩)])) := ⟨fun w' F h => h.cell rfl⟩
            go_upto_region 18 with fail
            go_cut [12] (fun x wx => ∃ xb t1 t2 r4 b4, x = .pointer (some ⟨xb, 0, none⟩) ∧ Hide (FourR r' b' t1 t2 r4 b4) ∧ Holds w wx [pts tb (.cells #[clo rb bb] 79), St rb bb r4 b4, pts xb (.cells #[.string ⟨List.toArray t1⟩, .string ⟨List.toArray t2⟩, .int .i64 0] 53), pts pb (.cells (picCells ⟨⟨v0, v1, v2, v3, v4, v5, v6'⟩, v7, v8, []⟩ u) 26), OwnRow 53 3 u k (itCells xs), pts rs (.cells zeroP 26)])
            case first =>
              go_region_held3 (fun w' => w'.cell? ⟨tb, 0, none⟩ = some (.func (.func 35) #[] #[.pointer (some ⟨rb, 0, none⟩), .pointer (some ⟨bb, 0, none⟩)]))
                (first | exact tS.out _ _ Hx.out | exact tS.out _ _ Ha4.out | exact tS.out _ _ Hb4.out | exact tS.out _ _ Ha3.out.p1 | exact tS.out _ _ Hb3.out.p1 | exact tS.out _ _ Ha2.out | exact tS.out _ _ Hb2.out | exact tS.out _ _ Ha1.out.p1 | exact tS.out _ _ Hb1.out.p1 | exact tS.out _ _ Ha0.out | exact tS.out _ _ Hb0.out | go_keep)
                ((first
                  | (go_at_call 36; (first | (with_reducible refine (Get1 hll.out Ha0.out).mono ?_) | (with_reducible refine (Get1 hll.out Hb0.out).mono ?_)); rintro e wa ⟨v', ra, ba, rfl, hh, ga⟩; obtain ⟨n1, rfl⟩ : ∃ n1 : Nat, v' = n1 := (⟨v'.toNat, by have := ga.out.small (by decide); omega⟩); have Ha1 := hide hh.p1; have Hb1 := hide (hh.alloc (o := .cells zeroI 53)).p2.p2.p1; clear hh)
                  | (go_at_call 35; (first | (with_reducible refine (Take_any n1 (Nat.le_trans ga.out.le hll.out) Ha1.out).mono ?_) | (with_reducible refine (Take_any n1 (Nat.le_trans ga.out.le hll.out) Hb1.out).mono ?_)); rintro e wb ⟨t1, rb1, bb1, rfl, hh, gb⟩; have Ha2 := hide hh.p1; have Hb2 := hide (hh.p1.alloc (o := .cells zeroI 53)).p2.p2; clear hh)
                  | (go_at_call 36; (first | (with_reducible refine (Get2 (Nat.le_trans gb.out.le (Nat.le_trans ga.out.le hll.out)) Ha2.out).mono ?_) | (with_reducible refine (Get2 (Nat.le_trans gb.out.le (Nat.le_trans ga.out.le hll.out)) Hb2.out).mono ?_)); rintro e wc ⟨v', rc, bc', rfl, hh, gc⟩; obtain ⟨n2, rfl⟩ : ∃ n2 : Nat, v' = n2 := (⟨v'.toNat, by have := gc.out.small (by decide); omega⟩); have Ha3 := hide hh.p1; have Hb3 := hide (hh.alloc (o := .cells zeroI 53)).p2.p2.p1; clear hh)
                  | (go_at_call 35; (first | (with_reducible refine (Take_any n2 (Nat.le_trans gc.out.le (Nat.le_trans gb.out.le (Nat.le_trans ga.out.le hll.out))) Ha3.out).mono ?_) | (with_reducible refine (Take_any n2 (Nat.le_trans gc.out.le (Nat.le_trans gb.out.le (Nat.le_trans ga.out.le hll.out))) Hb3.out).mono ?_)); rintro e wd ⟨t2, r4, b4, rfl, hh, gd⟩; have Ha4 := hide hh.p1; have Hb4 := hide (hh.p1.alloc (o := .cells #[.string ⟨List.toArray t1⟩, .string ⟨List.toArray t2⟩, .int .i64 0] 53)).p2.p2; have Hx := hide (((hh.p2.setCell (off := 0) (v := .string ⟨List.toArray t1⟩)).setCell (off := 1) (v := .string ⟨List.toArray t2⟩)).setCell (off := 2) (v := .int .i64 0)).p2.p2.p1; have gz := hide (four ga.out gb.out gc.out gd.out); (try (have x0 := Holds.cell (off := 0) (v := .string ⟨#[]⟩) hh.p2 rfl; have x1 := Holds.cell (off := 1) (v := .string ⟨#[]⟩) hh.p2 rfl; have x2 := Holds.cell (off := 2) (v := .int .i64 0) hh.p2 rfl; have y0 := Holds.free (off := 0) hh.p2; have y1 := Holds.free (off := 1) hh.p2; have y2 := Holds.free (off := 2) hh.p2)); clear hh)))
              all_goals
                go_wp2
                go_meet
                case rel => first | exact ⟨_, t1, t2, r4, b4, rfl, gz, Hb4.out⟩ | exact ⟨_, t1, t2, r4, b4, rfl, gz, Hx.out⟩
            case rest =>
              obtain ⟨xb, t1, t2, r4, b4, rfl, gz, hc⟩ := hcut
              have H10 := hide hc
              go_upto_region 20 with (go_at_call 36; (with_reducible refine (Get8 (Nat.le_trans gz.out.le hll.out) H10.out).mono ?_); rintro e we ⟨d, r5, b5, rfl, hh, gd⟩; have x2 := Holds.cell (off := 2) (v := .int .i64 0) hh.p2 rfl; have y2 := Holds.free (off := 2) hh.p2; have H11 := hide (Holds.setCell (off := 2) (v := .int .i64 d) hh.p2); clear hh)
              have cb : (we.setCell ⟨xb, 2, none⟩ (.int .i64 d)).cell? ⟨bb, 0, none⟩ = some (.bool b5) := H11.out.p2.st.p1.cell rfl
              obtain ⟨g1, g2, g3⟩ := gz.out.step d r5 b5 gd.out
              cases b5
              · have hx := hide (g2 rfl)
                have hb0 : Hide (b' = false) := ⟨by
                  cases hb0 : b'
                  · rfl
                  · have := g1 hb0; cases this⟩
                clear g1 g2 g3
                have hkM := hM.out.top
                have p9 : (we.setCell ⟨xb, 2, none⟩ (.int .i64 d)).cell? ⟨pb, 9, none⟩ = some u := H11.out.p3.cell rfl
                have q0 : (we.setCell ⟨xb, 2, none⟩ (.int .i64 d)).cell? ⟨xb, 0, none⟩ = some (.string ⟨List.toArray t1⟩) := H11.out.cell rfl
                have q1 : (we.setCell ⟨xb, 2, none⟩ (.int .i64 d)).cell? ⟨xb, 1, none⟩ = some (.string ⟨List.toArray t2⟩) := H11.out.cell rfl
                have q2 : (we.setCell ⟨xb, 2, none⟩ (.int .i64 d)).cell? ⟨xb, 2, none⟩ = some (.int .i64 d) := H11.out.cell rfl
                have H12 := hide (H11.out.alloc' (o := .cells #[.string ⟨List.toArray t1⟩, .string ⟨List.toArray t2⟩, .int .i64 d] 53)).p4
                go_wp2_with (at_builtin; refine wpList_append_own_at _ rfl _ _ 24 rfl w.heap.size 53 i (.agg #[.string ⟨#[]⟩, .string ⟨#[]⟩, .int .i64 0]) 3 40 Tryd.underlying24 hi.out hz0.out hz1.out hz2.out rfl (by decide) _ k (itCells xs) rfl H12.out.ownsRow _ 1 _ [.string ⟨List.toArray t1⟩, .string ⟨List.toArray t2⟩, .int .i64 d] rfl rfl (cells3_new _ _ _ _ _ _ (by simp)) (by simp [Value.oneCell']) (by simp only [maxLen]; omega) (by omega) H12.out.size ?_; intro vn wn o1 g1 _ hb1; obtain ⟨ao2, cap2, rfl⟩ := ownsShape o1; have H13 := hide (H12.out.grown o1 g1 (by rcases hb1 with hb1 | hb1 <;> first | exact .inl hb1 | exact .inr ⟨_, hb1, Nat.le_refl _⟩)); have p9' : wn.cell? ⟨pb, 9, none⟩ = some u := H13.out.p4.cell rfl; have y9 : wn.frozen? ⟨pb, 9, none⟩ = false := H13.out.p4.free; clear o1 g1 hb1)
                go_roundw
                case rel => exact ⟨k + 1, xs ++ [⟨⟨List.toArray t1⟩, ⟨List.toArray t2⟩, d⟩], r5, false, _, by go_num, hlt, ⟨⟨fun h => ⟨itsD_succ (hI.out.ok h).1 hx.out, rfl⟩, fun h => by have := hI.out.bad h; rw [hb0.out] at this; exact this, by rw [List.length_append, hI.out.len]; rfl, by have := hI.out.le; have := gz.out.le; have := gd.out.le; omega⟩⟩, by rw [itCells_snoc]; exact H13.out.p4.setCell.p2.drop.p3.p3⟩
                case measure => (simp [intOf] <;> omega)
              · have hn := hide (dec_break hR.out hg.out hM.out hI.out hlt fun h => g3 h rfl)
                clear g1 g2 g3
                have HF := hide H11.out.p5
                go_wp2_with (go_at_call 33; (with_reducible refine (Snap_fault_no _ _ _).mono ?_); rintro r w2 ⟨v2, rfl, hk2, he2⟩; have h2 := hide (HF.out.keep hk2); obtain ⟨r0, r1, r2, r3, r4, r5, r6, r7, r8, r9⟩ := zero_all h2.out; obtain ⟨g0, g1, g2, g3, g4, g5, g6, g7, g8, g9⟩ := free_all h2.out; clear hk2; have he2 := hide he2)
                have h3 := hide (set10 h2.out he2.out (.int .i64 0) (.int .i64 0) (.int .i64 0) (.int .i64 0) (.int .i64 0) (.int .i64 0) (.int .i64 0) (.int .i64 0) (.int .i64 0) (.slice none 0 0))
                refine bodyPost_ret (ret_pic h3.out.h rfl) rfl ?_
                exact ⟨h3.out.h.drop.toKeep, .inl ⟨hn.out, _, rfl, h3.out.e⟩⟩
          · obtain rfl : k = M := by omega
            obtain ⟨e1, e2, e3⟩ := dec_end hR.out hg.out hM.out hI.out
            have e1 := hide e1
            have e2 := hide e2
            have e3 := hide e3
            have hxl := hide hI.out.len
            obtain ⟨ao, cap, rfl⟩ := ownsShape H.out.p3.ownsRow
            have HS := hide H.out.p1.st
            obtain ⟨s', hs'⟩ : ∃ s' : ByteArray, ⟨r'.toArray⟩ = s' := ⟨_, rfl⟩
            have cr : wr.cell? ⟨rb, 0, none⟩ = some (.string s') := by rw [← hs']; exact HS.out.cell rfl
            have cb : wr.cell? ⟨bb, 0, none⟩ = some (.bool b') := HS.out.p1.cell rfl
            have hse : s'.toList = r' := by rw [← hs', ByteArray.toList_eq]
            have HF := hide H.out.p4
            have hdone : Hide (b' = true ∨ (b' = false ∧ r' ≠ []) → decD r0 = none) := ⟨fun h => h.elim e1.out fun h => e2.out h.1 h.2⟩
            clear hs'
            cases b'
            · by_cases hr' : r' = []
              · obtain ⟨us, ⟨hus, husm⟩, hdec⟩ := e3.out rfl hr'
                rw [picOf_head hus husm hv6] at hdec
                have hdec := hide hdec
                clear hus husm
                rw [hr'] at hse
                clear hr'
                have HP := H.out.p2
                obtain ⟨c0, c1, c2, c3, c4, c5', c6, c7, c8, c9⟩ := ten_cells HP
                have hit := hide (H.out.p3.itemsAt hxl.out)
                have hRt := hide (Snap_Right ⟨⟨v0, v1, v2, v3, v4, v5, v6'⟩, v7, v8, xs⟩ (.slice ao k cap) wr hit.out)
                simp only [picCells] at hRt
                obtain ⟨pe, hpe⟩ : ∃ pe, picE ⟨⟨v0, v1, v2, v3, v4, v5, v6'⟩, v7, v8, xs⟩ = pe := ⟨_, rfl⟩
                rw [hpe] at hRt
                have hpe := hide hpe
                have HP := hide HP
                cases pe with
                | nil =>
                  go_wp2_with (go_at_call 17; (with_reducible refine hRt.out.mono ?_); rintro r w1 ⟨e, rfl, hk, rfl⟩; have HQ := hide (HP.out.keep hk); obtain ⟨c0, c1, c2, c3, c4, c5', c6, c7, c8, c9⟩ := ten_cells HQ.out; have HZ := hide HQ.out.p4; obtain ⟨r0', r1', r2', r3', r4', r5', r6', r7', r8', r9'⟩ := zero_all HZ.out; obtain ⟨g0, g1, g2, g3, g4, g5, g6, g7, g8, g9⟩ := free_all HZ.out; clear hk)
                  have h3 := hide (set10 HZ.out (show ErrAt w1 .nil .nilIface from rfl) (.int .i64 v0) (.int .i64 v1) (.int .i64 v2) (.int .i64 v3) (.int .i64 v4) (.int .i64 v5) (.int .i64 v6') (.int .i64 v7) (.int .i64 v8) (.slice ao k cap))
                  refine bodyPost_ret (ret_pic h3.out.h rfl) rfl ?_
                  exact ⟨h3.out.h.drop.toKeep, .inr ⟨_, hdec.out, .inr ⟨(by rw [hpe.out]; rfl), _, rfl, (h3.out.h.p4.ownItems hxl.out).only⟩⟩⟩
                | no n => exact absurd hpe.out (wrapE_no _ n)
                | fault o kk e =>
                  go_wp2_with (first
                    | (go_at_call 17; (with_reducible refine hRt.out.mono ?_); rintro r w1 ⟨e', rfl, hk, he⟩; have he1 := he; obtain ⟨bf, ve, rfl, _⟩ := he1; have HZ := hide (HP.out.keep hk).p4; have he := hide he; clear hk)
                    | (go_at_call 33; (with_reducible refine (Snap_fault _ _ _ _ _ he.out).mono ?_); rintro r w2 ⟨v2, rfl, hk2, he2⟩; have h2 := hide (HZ.out.keep hk2); obtain ⟨r0, r1, r2, r3, r4, r5, r6, r7, r8, r9⟩ := zero_all h2.out; obtain ⟨g0, g1, g2, g3, g4, g5, g6, g7, g8, g9⟩ := free_all h2.out; clear hk2; have he2 := hide he2))
                  have h3 := hide (set10 h2.out he2.out (.int .i64 0) (.int .i64 0) (.int .i64 0) (.int .i64 0) (.int .i64 0) (.int .i64 0) (.int .i64 0) (.int .i64 0) (.int .i64 0) (.slice none 0 0))
                  refine bodyPost_ret (ret_pic h3.out.h rfl) rfl ?_
                  exact ⟨h3.out.h.drop.toKeep, .inr ⟨_, hdec.out, .inl ⟨(by rw [hpe.out]; rfl), _, rfl, by rw [hpe.out]; exact h3.out.e⟩⟩⟩
              · have hnil : s'.toList.isEmpty = false := by rw [hse]; cases r' <;> simp_all
                have hnil' : ¬ s'.toList = [] := by rw [hse]; exact hr'
                have hn := hide (hdone.out (.inr ⟨rfl, hr'⟩))
                clear hr' hse
                go_wp2_with (go_at_call 33; (with_reducible refine (Snap_fault_no _ _ _).mono ?_); rintro r w2 ⟨v2, rfl, hk2, he2⟩; have h2 := hide (HF.out.keep hk2); obtain ⟨r0, r1, r2, r3, r4, r5, r6, r7, r8, r9⟩ := zero_all h2.out; obtain ⟨g0, g1, g2, g3, g4, g5, g6, g7, g8, g9⟩ := free_all h2.out; clear hk2; have he2 := hide he2)
                have h3 := hide (set10 h2.out he2.out (.int .i64 0) (.int .i64 0) (.int .i64 0) (.int .i64 0) (.int .i64 0) (.int .i64 0) (.int .i64 0) (.int .i64 0) (.int .i64 0) (.slice none 0 0))
                refine bodyPost_ret (ret_pic h3.out.h rfl) rfl ?_
                exact ⟨h3.out.h.drop.toKeep, .inl ⟨hn.out, _, rfl, h3.out.e⟩⟩
            · have hn := hide (hdone.out (.inl rfl))
              clear hse
              go_wp2_with (go_at_call 33; (with_reducible refine (Snap_fault_no _ _ _).mono ?_); rintro r w2 ⟨v2, rfl, hk2, he2⟩; have h2 := hide (HF.out.keep hk2); obtain ⟨r0, r1, r2, r3, r4, r5, r6, r7, r8, r9⟩ := zero_all h2.out; obtain ⟨g0, g1, g2, g3, g4, g5, g6, g7, g8, g9⟩ := free_all h2.out; clear hk2; have he2 := hide he2)
              have h3 := hide (set10 h2.out he2.out (.int .i64 0) (.int .i64 0) (.int .i64 0) (.int .i64 0) (.int .i64 0) (.int .i64 0) (.int .i64 0) (.int .i64 0) (.int .i64 0) (.slice none 0 0))
              refine bodyPost_ret (ret_pic h3.out.h rfl) rfl ?_
              exact ⟨h3.out.h.drop.toKeep, .inl ⟨hn.out, _, rfl, h3.out.e⟩⟩
end Go.Proofs.YtggeppmiifkikaaDoor
