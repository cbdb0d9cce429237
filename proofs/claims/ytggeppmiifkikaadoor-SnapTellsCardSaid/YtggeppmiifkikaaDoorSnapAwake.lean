/- cachewiselaw16.awake. -/
import Derived.Test.YtggeppmiifkikaaDoorSnapAny
namespace Go.Proofs.YtggeppmiifkikaaDoor
open Go Go.RowKit Go.Shelf

set_option maxRecDepth 100000 in
theorem Usual_val (n : Int) (w : World) :
    Calls Tryd.prog 25 #[.int .i64 n] w fun r w' => r = .returned (.agg #[.int .i64 n, .int .i64 0, .int .i64 4, .int .i64 1, .int .i64 1, .int .i64 1, .int .i64 (-1)]) ∧ Keep w w' := by
  go_enter Tryd.func25, Tryd.ntmps25
  go_wp2
  refine bodyPost_ret (v := .agg #[.int .i64 n, .int .i64 0, .int .i64 4, .int .i64 1, .int .i64 1, .int .i64 1, .int .i64 (-1)]) (by simp [results, Tryd.results25, go_sem]) rfl ?_
  exact ⟨rfl, (Keep.refl w).alloc⟩
def awItem : It := ⟨⟨#[97]⟩, ⟨#[120]⟩, 9⟩
def awPic : Pic := ⟨⟨2, 0, 4, 1, 1, 1, -1⟩, 0, 5, [awItem]⟩
def awPic2 : Pic := ⟨⟨2, 0, 4, 1, 1, 1, -1⟩, 0, 5, [awItem, awItem]⟩
theorem aw_nil : picE awPic = .nil := picE_isNil (by decide +kernel)
theorem aw_few : FewP awPic := ⟨by decide, by decide, by decide⟩
theorem aw_size : (prS awPic).size = 104 := by
  unfold prS
  rw [aw_nil]
  decide +kernel
theorem aw_parse : parseM (prS awPic).data.toList = .ok awPic := by
  unfold prS
  rw [if_pos (by rw [aw_nil]; rfl)]
  exact parse_print (aw_few.fine aw_nil)
theorem aw_twice : picE awPic2 = .fault tSnap ⟨#[]⟩ (.no 10) := by
  rw [picE_rest (by decide) (by decide) (by decide)]
  unfold restE
  rw [if_neg (by decide +kernel), if_neg (by decide +kernel), if_pos (by decide +kernel)]
  rfl
theorem aw_empty : parseM [] = .err (.fault tParse ⟨#[]⟩ (.no 8)) := rfl
theorem aw_cfg : cfgE ⟨1, 0, 4, 1, 1, 1, -1⟩ = .nil := if_pos (by decide)
theorem itemsAt_one {g w : World} {b : Nat} {k v : ByteArray} {d : Int} {t : TypeId} {F : List SProp} (h : Holds g w (pts b (.cells #[.string k, .string v, .int .i64 d] t) :: F)) : ItemsAt w (.slice (some ⟨b, 0, none⟩) 1 1) [⟨k, v, d⟩] :=
  .inr ⟨b, 0, 1, rfl, Nat.le_refl _, by decide, fun j x hx => by
    match j, hx with
    | 0, hx => cases hx; exact ⟨h.cell rfl, h.cell rfl, h.cell rfl⟩⟩
theorem own_one {g w : World} {b : Nat} {x y z : Value} {e : TypeId} {F : List SProp} (h : Holds g w (pts b (.cells #[x, y, z] e) :: F)) : Holds g w (OwnRow e 3 (.slice (some ⟨b, 0, none⟩) 1 1) 1 [x, y, z] :: F) :=
  h.head fun _ hx => ⟨rfl, .inr ⟨b, 1, _, rfl, Nat.le_refl _, by decide, rfl, rfl, hx⟩⟩
theorem aw_Print (v : Value) (w : World) (hv : ItemsAt w v [awItem]) :
    Calls Tryd.prog 11 #[.agg #[.int .i64 2, .int .i64 0, .int .i64 4, .int .i64 1, .int .i64 1, .int .i64 1, .int .i64 (-1), .int .i64 0, .int .i64 5, v]] w fun r w' => r = .returned (.tuple #[.string (prS awPic), .nilIface]) ∧ Keep w w' := by
  refine (Snap_Print awPic v w hv aw_few).mono ?_
  rintro r w' ⟨u, rfl, hk, he⟩
  rw [aw_nil] at he
  obtain rfl := he
  exact ⟨rfl, hk⟩
theorem ErrAt.grown {g w w' : World} {v : Value} {n size : Nat} {xs : List Value} {L : List SProp} {t : TypeId} (h : Holds g w (OwnRow t size v n xs :: L)) (ht : t ≠ 59) (hg : w.grownBy w' v.ownBlock) : ∀ {e : EV} {u : Value}, ErrAt w e u → ErrAt w' e u
  | .nil, _, h => h
  | .no _, _, h => h
  | .fault _ _ _, _, ⟨c, ve, h1, h2, h3⟩ => ⟨c, ve, h1, by
      have hl : c < w.heap.size := by
        rcases Nat.lt_or_ge c w.heap.size with h | h
        · exact h
        · rw [Array.getElem?_eq_none h] at h2; cases h2
      rw [hg.block c hl (fun he => ?_)]
      · exact h2
      · rcases h.ownsRow.2 with ⟨rfl, _⟩ | ⟨q, cap, cur, rfl, _, hq, _⟩
        · simp [Value.ownBlock] at he
        · obtain rfl : c = q := by simpa [Value.ownBlock] using he
          rw [hq] at h2
          cases h2
          exact ht rfl, h3.grown h ht hg⟩
theorem own_first {g w : World} {v x y z : Value} {e : TypeId} {F : List SProp} (h : Holds g w (OwnRow e 3 v 1 [x, y, z] :: F)) : ∃ b cap cur, v = .slice (some ⟨b, 0, none⟩) 1 cap ∧ cur[1]? = some y ∧ Holds g w (pts b (.cells cur e) :: F) := by
  obtain ⟨_, h⟩ := h.unfact
  obtain ⟨p, q, c, k, X, ⟨Y, Z, d, hx, hp, s⟩, f⟩ := h
  rcases hp with ⟨_, h0⟩ | ⟨b, cap, cur, rfl, _, _, h4, h5, h6⟩
  · cases h0
  · refine ⟨b, cap, cur, rfl, ?_, p, q, c, k, X, ⟨Y, Z, d, hx, h6, s⟩, f⟩
    rw [← Array.getElem?_toList]
    have : (cur.toList.take (1 * 3))[1]? = some y := by rw [h5]; rfl
    rwa [List.getElem?_take_of_lt (by decide)] at this
theorem aw_Parse (w : World) :
    Calls Tryd.prog 14 #[.string (prS awPic)] w fun r w' => ∃ b cap cur, r = .returned (.tuple #[.agg #[.int .i64 2, .int .i64 0, .int .i64 4, .int .i64 1, .int .i64 1, .int .i64 1, .int .i64 (-1), .int .i64 0, .int .i64 5, .slice (some ⟨b, 0, none⟩) 1 cap], .nilIface]) ∧ cur[1]? = some (.string ⟨#[120]⟩) ∧ Holds w w' [pts b (.cells cur 53)] := by
  refine (Snap_Parse (prS awPic) (by rw [aw_size]; decide) w).mono ?_
  rintro r w' ⟨hk, ⟨e, u, hm, _⟩ | ⟨p, v, hm, rfl, hi⟩⟩
  · rw [aw_parse] at hm; cases hm
  · rw [aw_parse] at hm
    cases hm
    obtain ⟨b, cap, cur, rfl, h1, h2⟩ := own_first hi
    exact ⟨b, cap, cur, rfl, h1, h2⟩
theorem aw_Parse0 (w : World) :
    Calls Tryd.prog 14 #[.string ⟨#[]⟩] w fun r w' => ∃ u, r = .returned (.tuple #[.agg #[.int .i64 0, .int .i64 0, .int .i64 0, .int .i64 0, .int .i64 0, .int .i64 0, .int .i64 0, .int .i64 0, .int .i64 0, .slice none 0 0], u]) ∧ Keep w w' ∧ ErrAt w' (.fault ⟨#[112, 97, 114, 115, 101]⟩ ⟨#[]⟩ (.no 8)) u := by
  refine (Snap_Parse ⟨#[]⟩ (by decide) w).mono ?_
  rintro r w' ⟨hk, ⟨e, u, hm, rfl, he⟩ | ⟨p, v, hm, _⟩⟩
  · rw [show parseM (⟨#[]⟩ : ByteArray).data.toList = .err (.fault tParse ⟨#[]⟩ (.no 8)) from aw_empty] at hm
    cases hm
    exact ⟨u, rfl, hk, he⟩
  · rw [show parseM (⟨#[]⟩ : ByteArray).data.toList = .err (.fault tParse ⟨#[]⟩ (.no 8)) from aw_empty] at hm
    cases hm
theorem aw_Right (v : Value) (w : World) (hv : ItemsAt w v [awItem, awItem]) :
    Calls Tryd.prog 17 #[.agg #[.int .i64 2, .int .i64 0, .int .i64 4, .int .i64 1, .int .i64 1, .int .i64 1, .int .i64 (-1), .int .i64 0, .int .i64 5, v]] w fun r w' => ∃ u, r = .returned u ∧ Keep w w' ∧ ErrAt w' (.fault ⟨#[115, 110, 97, 112]⟩ ⟨#[]⟩ (.no 10)) u := by
  have h := Snap_Right awPic2 v w hv
  rw [aw_twice] at h
  exact h
theorem aw_Fits (w : World) : Calls Tryd.prog 18 #[.agg #[.int .i64 1, .int .i64 0, .int .i64 4, .int .i64 1, .int .i64 1, .int .i64 1, .int .i64 (-1)]] w fun r w' => r = .returned .nilIface ∧ Keep w w' := by
  refine (Snap_Fits ⟨1, 0, 4, 1, 1, 1, -1⟩ w).mono ?_
  rintro r w' ⟨v, rfl, hk, he⟩
  rw [aw_cfg] at he
  obtain rfl := he
  exact ⟨rfl, hk⟩
abbrev awCells (v : Value) : Array Value := #[.int .i64 2, .int .i64 0, .int .i64 4, .int .i64 1, .int .i64 1, .int .i64 1, .int .i64 (-1), .int .i64 0, .int .i64 5, v]
theorem aw_start {w w1 : World} (k : Keep w w1) : Holds w ((w1.alloc (.cells #[.string ⟨#[97]⟩, .string ⟨#[120]⟩, .int .i64 9] 53)).alloc (.cells (awCells (.slice (some ⟨w1.heap.size, 0, none⟩) 1 1)) 26))
    [pts (w1.heap.size + 1) (.cells (awCells (.slice (some ⟨w1.heap.size, 0, none⟩) 1 1)) 26), pts w1.heap.size (.cells #[.string ⟨#[97]⟩, .string ⟨#[120]⟩, .int .i64 9] 53)] := by
  have h := ((((Holds.start w).keep k).alloc (o := .cells #[.string ⟨#[97]⟩, .string ⟨#[120]⟩, .int .i64 9] 53)).alloc (o := .cells (awCells (.slice (some ⟨w1.heap.size, 0, none⟩) 1 1)) 26))
  rw [World.size_alloc] at h
  exact h
set_option maxRecDepth 100000 in
set_option maxHeartbeats 4000000 in
theorem awake16 (w : World) (hE : Env w) : Calls Tryd.prog 9 #[] w fun r w' => r = .returned (.bool true) ∧ Keep w w' := by
  have hE := hide hE
  have k0 := hide (Keep.refl w)
  have hsz := aw_size
  have cP := hide aw_Parse
  have cR := hide aw_Print
  obtain ⟨s0, hs0⟩ : ∃ s0, prS awPic = s0 := ⟨_, rfl⟩
  rw [hs0] at hsz cP cR
  clear hs0
  go_enter Tryd.func9, Tryd.ntmps9
  go_wp2_with (first
    | (go_at_call 25; (with_reducible refine (Usual_val _ _).mono ?_); rintro r w1 ⟨rfl, h⟩; have H1 := hide (aw_start (k0.out.trans h)); clear h)
    | (go_at_call 11; (with_reducible refine (cR.out _ _ (itemsAt_one H1.out.p1)).mono ?_); rintro r w2 ⟨rfl, h⟩; have H2 := hide (H1.out.keep h); clear h)
    | (go_at_call 14; (with_reducible refine (cP.out _).mono ?_); rintro r w3 ⟨qb, qc, cur, rfl, hq, h⟩; have H3 := hide ((H2.out.join h).alloc (o := .cells (awCells (.slice (some ⟨qb, 0, none⟩) 1 qc)) 26)); clear h; have hq := hide hq)
    | (go_at_call 14; (with_reducible refine (aw_Parse0 _).mono ?_); rintro r w4 ⟨u, rfl, h, he⟩; have H4 := hide (H3.out.keep h); have he := hide he; clear h))
  have H5 := ((H4.out.alloc' (o := .cells #[.int .i64 0, .int .i64 0, .int .i64 0, .int .i64 0, .int .i64 0, .int .i64 0, .int .i64 0, .int .i64 0, .int .i64 0, .slice none 0 0] 26)).p2)
  have heW := he.out.keep ((Keep.refl w4).alloc (o := .cells #[.int .i64 0, .int .i64 0, .int .i64 0, .int .i64 0, .int .i64 0, .int .i64 0, .int .i64 0, .int .i64 0, .int .i64 0, .slice none 0 0] 26))
  generalize hW : w4.alloc (.cells #[.int .i64 0, .int .i64 0, .int .i64 0, .int .i64 0, .int .i64 0, .int .i64 0, .int .i64 0, .int .i64 0, .int .i64 0, .slice none 0 0] 26) = W5 at H5 heW ⊢
  clear hW H1 H2 H3 H4 he
  obtain ⟨ib, hib⟩ : ∃ ib, w1.heap.size = ib := ⟨_, rfl⟩
  simp only [hib] at H5 ⊢
  obtain ⟨pb, hpb⟩ : ∃ pb, ib + 1 = pb := ⟨_, rfl⟩
  simp only [hpb] at H5 ⊢
  obtain ⟨cb, hcb⟩ : ∃ cb, w3.heap.size = cb := ⟨_, rfl⟩
  simp only [hcb] at H5 ⊢
  clear hib hpb hcb
  have c9 : W5.cell? ⟨pb, 9, none⟩ = some (.slice (some ⟨ib, 0, none⟩) 1 1) := H5.cell rfl
  have hpl := H5.lt
  have i0 : W5.cell? ⟨ib, 0, none⟩ = some (.string ⟨#[97]⟩) := H5.p3.cell rfl
  have i1 : W5.cell? ⟨ib, 1, none⟩ = some (.string ⟨#[120]⟩) := H5.p3.cell rfl
  have i2 : W5.cell? ⟨ib, 2, none⟩ = some (.int .i64 9) := H5.p3.cell rfl
  have hil := H5.p3.lt
  have heW := hide (ErrAt.keep ((Keep.refl W5).drew.alloc (o := .cells #[.string ⟨#[97]⟩, .string ⟨#[120]⟩, .int .i64 9] 53)) heW)
  obtain ⟨i, hi, hz0, hz1, hz2⟩ := info_parts infoItem
  replace hi := hide hi
  replace hz0 := hide hz0
  replace hz1 := hide hz1
  replace hz2 := hide hz2
  have H6 := hide ((own_one H5.p3).drew.alloc' (o := .cells #[.string ⟨#[97]⟩, .string ⟨#[120]⟩, .int .i64 9] 53))
  clear H5
  go_region_law ((refine step_append_at rfl _ _ 24 rfl w.heap.size 53 i (.agg #[.string ⟨#[]⟩, .string ⟨#[]⟩, .int .i64 0]) 3 40 Tryd.underlying24 hi.out hz0.out hz1.out hz2.out rfl (by decide) _ 1 [.string ⟨#[97]⟩, .string ⟨#[120]⟩, .int .i64 9] rfl H6.out.ownsRow _ 1 _ [.string ⟨#[97]⟩, .string ⟨#[120]⟩, .int .i64 9] rfl rfl (cells3_new _ _ _ _ _ _ (by simp)) (by simp [Value.oneCell']) (by decide) (by decide) H6.out.size ?_; intro vn wn o1 g1 hb1; obtain ⟨ao2, cap2, rfl⟩ := ownsShape o1; have H7 := hide (H6.out.grown o1 g1 (by rcases hb1 with hb1 | hb1 <;> first | exact .inl hb1 | exact .inr ⟨_, hb1, Nat.le_refl _⟩)).p1; have p9 : wn.cell? ⟨pb, 9, none⟩ = some (.slice (some ⟨ib, 0, none⟩) 1 1) := H7.out.cell rfl; have y9 : wn.frozen? ⟨pb, 9, none⟩ = false := H7.out.free; have he7 := hide (ErrAt.grown H6.out (by decide) g1 heW.out); clear o1 g1 hb1))
  all_goals
    have H8 := hide (H7.out.setCell (off := 9) (v := .slice ao2 2 cap2))
    have he8 := hide (ErrAt.setCell (off := 9) (x := .slice ao2 2 cap2) H7.out.block (by decide) he7.out)
    have hit := hide (H8.out.p1.itemsAt (xs := [awItem, awItem]) rfl)
    obtain ⟨c0, c1, c2, c3, c4, c5, c6, c7, c8, c9'⟩ := ten_cells H8.out
    go_wp2_with (first
      | (go_at_call 17; (with_reducible refine (aw_Right _ _ hit.out).mono ?_); rintro r w5 ⟨u5, rfl, h, he9⟩; have H9 := hide (H8.out.keep h).p2; have hr9 := hide (he8.out.keep h); have he9 := hide he9; obtain ⟨q0, q1, q2, q3, q4, q5, q6, q7, q8, q9⟩ := ten_cells H9.out; have qv := H9.out.p3.cell hq.out; have k9 := hide (Keep.refl w5); clear h)
      | (go_at_call 16; (with_reducible refine (Wraps_hit _ _ 8 _ _ (hE.out.keep (H9.out.toKeep.trans k9.out)) (by decide) (hr9.out.keep k9.out)).mono ?_); rintro r wn ⟨rfl, h⟩; replace k9 := hide (k9.out.trans h); clear h)
      | (go_at_call 16; (with_reducible refine (Wraps_hit _ _ 10 _ _ (hE.out.keep (H9.out.toKeep.trans k9.out)) (by decide) (he9.out.keep k9.out)).mono ?_); rintro r wn ⟨rfl, h⟩; replace k9 := hide (k9.out.trans h); clear h)
      | (go_at_call 25; (with_reducible refine (Usual_val _ _).mono ?_); rintro r wn ⟨rfl, h⟩; replace k9 := hide (k9.out.trans h); clear h)
      | (go_at_call 18; (with_reducible refine (aw_Fits _).mono ?_); rintro r wn ⟨rfl, h⟩; replace k9 := hide (k9.out.trans h); clear h))
    go_ret
    exact ⟨rfl, H9.out.toKeep.trans k9.out⟩
end Go.Proofs.YtggeppmiifkikaaDoor
