/- The contract of snap.Right: the items. -/
import Derived.Test.YtggeppmiifkikaaDoorSnapRight
namespace Go.Proofs.YtggeppmiifkikaaDoor
open Go Go.RowKit

set_option maxRecDepth 100000 in
set_option maxHeartbeats 8000000 in
theorem Snap_Right_rest (p : Pic) (v : Value) (w : World) (hv : ItemsAt w v p.items) (h : cfgC p.c = 0) (h1 : 0 ≤ p.kind ∧ p.kind ≤ 6) (h2 : 0 ≤ p.now ∧ p.now ≤ 1099511627776) (h3 : (p.items.length : Int) ≤ p.c.size) (h4 : p.items.length ≤ 16777216) :
    Calls Tryd.prog 17 #[.agg (picCells p v)] w fun r w' => ∃ u, r = .returned u ∧ Keep w w' ∧ ErrAt w' (picE p) u := by
  rw [picE_rest h h1 ⟨h2, h3⟩]
  obtain ⟨R, hR⟩ : ∃ R, wrapE (restE p) = R := ⟨_, rfl⟩
  rw [hR]
  have hR := hide hR
  have hF : ∀ w, Calls Tryd.prog 18 #[.agg #[.int .i64 p.c.size, .int .i64 p.c.shift, .int .i64 p.c.window, .int .i64 p.c.margin, .int .i64 p.c.hold, .int .i64 p.c.quota, .int .i64 p.c.pin]] w fun r w' => ∃ v, r = .returned v ∧ Keep w w' ∧ ErrAt w' (cfgE p.c) v := Snap_Fits p.c
  rw [cfgE, if_pos h] at hF
  have hF := hide hF
  obtain ⟨ao, cap, rfl⟩ := hv.shape
  have hv := hide hv
  unfold picCells
  have h0 := hide ((Holds.start w).alloc (o := .cells (picCells p (.slice ao p.items.length cap)) 26))
  obtain ⟨n, hn⟩ : ∃ n, p.items.length = n := ⟨_, rfl⟩
  rw [hn] at h3 h4 h0 hv ⊢
  have hn := hide hn
  have h := hide h
  have h1 := hide h1
  have h2 := hide h2
  have h3' : decide (p.c.size < (n : Int)) = false := decide_eq_false (by omega)
  clear h3
  have hmm := @run_makeMap Tryd.prog
  go_enter Tryd.func17, Tryd.ntmps17
  go_wp2_with (first
    | (go_at_call 18; (with_reducible refine (hF.out _).mono ?_); rintro r w1 ⟨v1, rfl, hk, rfl⟩; obtain ⟨c0, c7, c8, c9⟩ := pic_cells (h0.out.keep hk); have m9 := (pic_cells (h0.out.keep hk).newMap.p1).2.2.2; have hk := hide hk)
    | (go_at_call 39; (with_reducible refine (In_t _ _ _ h1.out _).mono ?_); rintro r w' ⟨rfl, rfl⟩)
    | (go_at_call 39; (with_reducible refine (In_t _ _ _ h2.out _).mono ?_); rintro r w' ⟨rfl, rfl⟩))
  have H0 := hide ((h0.out.keep hk.out).newMap)
  obtain ⟨bp, hbp⟩ : ∃ bp, w.heap.size = bp := ⟨_, rfl⟩
  obtain ⟨bm, hbm⟩ : ∃ bm, w1.heap.size = bm := ⟨_, rfl⟩
  rw [hbp, hbm] at H0
  simp only [hbp, hbm]
  clear hbp hbm c0 c7 c8 c9 m9
  go_loopw [5, 6, 45] (fun a b i wr => ∃ (j : Nat) (l : Assoc), a = .bool ((p.items.take j).any (overI p.now)) ∧ b = .bool (twiceN p.items j) ∧ i = .int .i64 j ∧ j ≤ n ∧ (∀ (i : Nat) (y : It), i < j → p.items[i]? = some y → itC y = 0) ∧
    (∀ k, l.has k = hasKey (p.items.take j) k) ∧ (∀ k, (l.get k).getD (.bool false) = .bool (l.has k)) ∧ Holds w wr [OwnMap bm l, pts bp (.cells (picCells p (.slice ao n cap)) 26)]) (fun _ _ i _ => (n - intOf i).toNat)
  case atStart => exact ⟨0, [], rfl, rfl, rfl, Nat.zero_le _, fun i y hi => by omega, fun k => rfl, fun k => rfl, H0.out⟩
  case round =>
    obtain ⟨j, l, rfl, rfl, rfl, hj, hr, hl1, hl2, hh⟩ := hrel
    have hr := hide hr
    have hl1 := hide hl1
    have hl2 := hide hl2
    have H := hide hh
    clear hh
    by_cases hjn : j < n
    · have hjn' : (j : Int) < n := by omega
      obtain ⟨x, hx⟩ : ∃ x, p.items[j]? = some x := ⟨_, List.getElem?_eq_getElem (by have := hn.out; omega)⟩
      rcases hv.out with ⟨_, hnil⟩ | ⟨b, off, cap', he, e1, e2, e3⟩
      · have := hn.out
        rw [hnil] at this
        simp at this
        omega
      · obtain ⟨rfl, _, rfl⟩ : ao = some ⟨b, off, none⟩ ∧ True ∧ cap = cap' := by
          simp only [Value.slice.injEq] at he
          exact ⟨he.1, trivial, he.2.2⟩
        obtain ⟨q0, q1, q2⟩ := e3 j x hx
        have q0 := H.out.toKeep.cell q0
        have q1 := H.out.toKeep.cell q1
        have q2 := H.out.toKeep.cell q2
        clear he e3
        obtain ⟨k, u, d⟩ := x
        dsimp only at q0 q1 q2
        have hx := hide hx
        have f1 : IntKind.i64.wrap ((j : Int) + 1) = ((j + 1 : Nat) : Int) := by rw [show (j : Int) + 1 = ((j + 1 : Nat) : Int) by omega]; exact IntWalk.i64_in _ (by omega)
        have hV : ∀ w, Calls Tryd.prog 23 #[.agg #[.string k, .string u, .int .i64 d]] w fun r w' => ∃ v, r = .returned v ∧ Keep w w' ∧ ErrAt w' (itE ⟨k, u, d⟩) v := Val_Right ⟨k, u, d⟩
        by_cases hc : itC ⟨k, u, d⟩ = 0
        · have hie : itE ⟨k, u, d⟩ = .nil := if_pos hc
          rw [hie] at hV
          have hV := hide hV
          have hc := hide hc
          have HA : Hide ((p.items.take (j + 1)).any (overI p.now) = ((p.items.take j).any (overI p.now) || overI p.now ⟨k, u, d⟩)) := ⟨any_take_succ _ _ _ _ hx.out⟩
          have HB : Hide (twiceN p.items (j + 1) = (twiceN p.items j || hasKey (p.items.take j) k)) := ⟨by rw [twiceN, hx.out]⟩
          obtain ⟨ov, hov⟩ : ∃ ov, (p.items.take j).any (overI p.now) = ov := ⟨_, rfl⟩
          obtain ⟨tw, htw⟩ : ∃ tw, twiceN p.items j = tw := ⟨_, rfl⟩
          rw [hov] at HA
          rw [htw] at HB
          simp only [hov, htw]
          have hov := hide hov
          have htw := hide htw
          obtain ⟨sk, hsk⟩ : ∃ sk, hasKey (p.items.take j) k = sk := ⟨_, rfl⟩
          rw [hsk] at HB
          have hlk : Hide ((l.get k).getD (.bool false) = .bool sk) := ⟨by rw [hl2.out, hl1.out, hsk]⟩
          have hsk := hide hsk
          have hov2 : overI p.now ⟨k, u, d⟩ = (decide (0 < d) && decide (d ≤ p.now)) := rfl
          rw [hov2] at HA
          clear hov2
          rcases (show ov = true ∨ (ov = false ∧ 0 < d ∧ d ≤ p.now) ∨ (ov = false ∧ 0 < d ∧ ¬ d ≤ p.now) ∨ (ov = false ∧ ¬ 0 < d) by cases ov <;> simp <;> omega) with rfl | ⟨rfl, o1, o2⟩ | ⟨rfl, o1, o2⟩ | ⟨rfl, o1⟩
          all_goals
            cases tw
          all_goals
            have HC := HA.out
            first
              | rw [Bool.true_or] at HC
              | rw [decide_eq_true o1, decide_eq_true o2] at HC
              | rw [decide_eq_true o1, decide_eq_false o2] at HC
              | rw [decide_eq_false o1] at HC
            have HC := hide HC
            clear HA
            go_wp2_with (first
              | (go_at_call 23; (with_reducible refine (hV.out _).mono ?_); rintro r w2 ⟨v1, rfl, hk1, rfl⟩; have H2 := H.out.alloc.keep hk1; have x0 := H2.cell (off := 0) rfl; have x2 := H2.cell (off := 2) rfl; have c8 := (pic_cells H2.p2).2.2.1; have hL := H2.p1.lookup Tryd.underlying89 Tryd.underlying9 zeroBool k; rw [hlk.out] at hL; have H2 := hide H2)
              | (at_mapUpdate; refine wpList_update_map rfl _ _ _ rfl Tryd.underlying89 Tryd.underlying9 H2.out.p1 k (.bool true) rfl rfl rfl ?_; intro w3 H3; have H3 := hide H3.p1.drop))
            go_roundw
            case rel =>
              refine ⟨j + 1, l.put k (.bool true), by rw [HC.out] <;> first | rfl | (simp; omega), by rw [HB.out] <;> rfl, rfl, by omega, ?_, ?_, ?_, H3.out⟩
              · intro i y hi hy
                rcases Nat.lt_or_ge i j with hlt | hge
                · exact hr.out i y hlt hy
                · obtain rfl : i = j := by omega
                  obtain rfl := Option.some.inj (hx.out.symm.trans hy)
                  exact hc.out
              · intro c
                rw [has_put, hl1.out, hasKey_take_succ _ _ _ hx.out]
              · intro c
                rw [get_put, has_put]
                by_cases hk : k = c
                · rw [if_pos hk, decide_eq_true hk, Bool.or_true]
                  rfl
                · rw [if_neg hk, decide_eq_false hk, Bool.or_false]
                  exact hl2.out c
            case measure => (simp [intOf] <;> omega)
        · have hRe : Hide (R = .fault tSnap ⟨#[]⟩ (itE ⟨k, u, d⟩)) := ⟨by rw [← hR.out]; exact rest_at hx.out hr.out hc⟩
          have hie : itE ⟨k, u, d⟩ = .fault tItem k (.no (itC ⟨k, u, d⟩)) := if_neg hc
          rw [hie] at hV hRe
          have hV := hide hV
          have hc := hide hc
          go_wp2_with (first
            | (go_at_call 23; (with_reducible refine (hV.out _).mono ?_); rintro r w2 ⟨v1, rfl, hk1, he⟩; have hk1 := hide hk1; have he1 := he; obtain ⟨bf, ve, rfl, _⟩ := he1; have he := hide he)
            | (go_at_call 33; (with_reducible refine (Snap_fault _ _ _ _ _ he.out).mono ?_); rintro r w3 ⟨v2, rfl, hk2, he2⟩; have hk2 := hide hk2; have he2 := hide he2))
          go_ret
          exact ⟨v2, rfl, H.out.alloc.drop.toKeep.trans (hk1.out.trans hk2.out), by rw [hRe.out]; exact he2.out⟩
    · obtain rfl : j = n := by omega
      have hall : ∀ (i : Nat) (y : It), p.items[i]? = some y → itC y = 0 := fun i y hy => by
        refine hr.out i y ?_ hy
        have := hn.out
        rcases Nat.lt_or_ge i p.items.length with hlt | hge
        · omega
        · rw [List.getElem?_eq_none hge] at hy; cases hy
      have htk : p.items.take j = p.items := List.take_of_length_le (by have := hn.out; omega)
      rw [htk]
      have hlen := hn.out
      cases ho : p.items.any (overI p.now)
      · cases ht : twiceN p.items j
        · have hRe : Hide (R = .nil) := ⟨by rw [← hR.out]; exact rest_fine hall ho (by rw [hlen]; exact ht)⟩
          clear hall htk hlen ho ht
          go_wp2
          go_ret
          exact ⟨_, rfl, H.out.toKeep, by rw [hRe.out]; rfl⟩
        · have hRe : Hide (R = .fault tSnap ⟨#[]⟩ (.no 10)) := ⟨by rw [← hR.out]; exact rest_twice hall ho (by rw [hlen]; exact ht)⟩
          clear hall htk hlen ho ht
          go_wp2_with (go_at_call 33; (with_reducible refine (Snap_fault_no _ _ _).mono ?_); rintro r w3 ⟨v2, rfl, hk2, he2⟩; have hk2 := hide hk2; have he2 := hide he2)
          go_ret
          exact ⟨v2, rfl, H.out.toKeep.trans hk2.out, by rw [hRe.out]; exact he2.out⟩
      · have hRe : Hide (R = .fault tSnap ⟨#[]⟩ (.no 11)) := ⟨by rw [← hR.out]; exact rest_over hall ho⟩
        clear hall htk hlen ho
        go_wp2_with (go_at_call 33; (with_reducible refine (Snap_fault_no _ _ _).mono ?_); rintro r w3 ⟨v2, rfl, hk2, he2⟩; have hk2 := hide hk2; have he2 := hide he2)
        go_ret
        exact ⟨v2, rfl, H.out.toKeep.trans hk2.out, by rw [hRe.out]; exact he2.out⟩
theorem cfg_size {c : Cfg} (h : cfgC c = 0) : 0 ≤ c.size ∧ c.size ≤ 16777216 := by
  obtain ⟨n, hn, hc⟩ := cfgC_cases c
  omega
theorem Snap_Right (p : Pic) (v : Value) (w : World) (hv : ItemsAt w v p.items) :
    Calls Tryd.prog 17 #[.agg (picCells p v)] w fun r w' => ∃ u, r = .returned u ∧ Keep w w' ∧ ErrAt w' (picE p) u := by
  by_cases h : cfgC p.c = 0
  · by_cases h1 : 0 ≤ p.kind ∧ p.kind ≤ 6
    · by_cases h2 : 0 ≤ p.now ∧ p.now ≤ 1099511627776
      · by_cases h3 : p.c.size < p.items.length
        · exact Snap_Right_early p v w hv (.inr (.inr (.inr ⟨h, h1, h2, h3⟩)))
        · have := cfg_size h
          exact Snap_Right_rest p v w hv h h1 h2 (by omega) (by omega)
      · exact Snap_Right_early p v w hv (.inr (.inr (.inl ⟨h, h1, h2⟩)))
    · exact Snap_Right_early p v w hv (.inr (.inl ⟨h, h1⟩))
  · exact Snap_Right_early p v w hv (.inl h)
end Go.Proofs.YtggeppmiifkikaaDoor
