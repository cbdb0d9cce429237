/- cachewiselaw16.Of: a picture as the document has it. -/
import Derived.Test.YtggeppmiifkikaaDoorSnapLengths
import Derived.Test.YtggeppmiifkikaaDoorStep
namespace Go.Proofs.YtggeppmiifkikaaDoor
open Go Go.RowKit Go.Shelf

/-- The call owns the slice v of the document's items. -/
def OwnRefs (v : Value) (l : List It) : SProp := OwnRow 76 3 v l.length (itCells l)
theorem infoRefItem : (Tryd.prog.info? 76).map (fun i => (i.zero, i.size, i.bytes)) = some (some (.agg #[.string ⟨#[]⟩, .string ⟨#[]⟩, .int .i64 0]), 3, 40) := by kernel_rfl
theorem infoRefPic : (Tryd.prog.info? 37).map (·.size) = some 10 := by kernel_rfl
theorem ret_ofpic {g w : World} {b : Nat} {F : List SProp} {v0 v1 v2 v3 v4 v5 v6 v7 v8 v9 : Value} {tmps : Array Value} (h : Holds g w (pts b (.cells #[v0, v1, v2, v3, v4, v5, v6, v7, v8, v9] 37) :: F))
    (hp : tmps.getD 2 undef = .pointer (some ⟨b, 0, none⟩)) : (results Tryd.f13 tmps).run Tryd.prog w = .ok (.agg #[v0, v1, v2, v3, v4, v5, v6, v7, v8, v9]) w := by
  have hp' : tmps[2]?.getD undef = .pointer (some ⟨b, 0, none⟩) := by simpa using hp
  simp [results, hp', asAddr, run_loadVar_row w b 37 37 _ (0, 0) _ h.block Tryd.underlying37 rfl infoRefPic]
theorem Holds.itemsRef {g w : World} {v : Value} {n : Nat} {xs : List It} {L : List SProp} (h : Holds g w (OwnRow 76 3 v n (itCells xs) :: L)) (hl : xs.length = n) : ItemsAt w v xs := by
  have ho := h.ownsRow
  rcases ho.2 with ⟨rfl, h0⟩ | ⟨q, cap, cur, rfl, h1, h2, h3, h4, h5, h6⟩
  · exact .inl ⟨⟨_, _, rfl⟩, List.length_eq_zero_iff.1 (by omega)⟩
  · refine .inr ⟨q, 0, cap, by rw [hl], by omega, h4, fun j x hx => ?_⟩
    have hadd : ∀ j, (⟨q, 0, none⟩ : Addr).add j = ⟨q, 0 + j, none⟩ := fun j => by unfold Addr.add; split <;> simp_all
    obtain ⟨a, b, c⟩ := itCells_get xs j x hx
    have a' := ho.cells (g := q) rfl _ _ a
    have b' := ho.cells (g := q) rfl _ _ b
    have c' := ho.cells (g := q) rfl _ _ c
    rw [hadd] at a' b' c'
    refine ⟨a', ?_, ?_⟩
    · rw [Nat.add_assoc]; exact b'
    · rw [Nat.add_assoc, Nat.add_assoc]; exact c'
theorem Holds.setTo {g w : World} {b off : Nat} {v : Value} {cs cs' : Array Value} {t : TypeId} {F : List SProp} (h : Holds g w (pts b (.cells cs t) :: F)) (hc : cs.setIfInBounds off v = cs') : Holds g (w.setCell ⟨b, off, none⟩ v) (pts b (.cells cs' t) :: F) := by
  rw [← hc]; exact h.setCell
theorem set10g {g w : World} {b : Nat} {t : TypeId} {F : List SProp} {u0 u1 u2 u3 u4 u5 u6 u7 u8 u9 : Value} (h : Holds g w (pts b (.cells #[u0, u1, u2, u3, u4, u5, u6, u7, u8, u9] t) :: F)) (v0 v1 v2 v3 v4 v5 v6 v7 v8 v9 : Value) :
    Holds g ((((((((((w.setCell ⟨b, 0, none⟩ v0).setCell ⟨b, 1, none⟩ v1).setCell ⟨b, 2, none⟩ v2).setCell ⟨b, 3, none⟩ v3).setCell ⟨b, 4, none⟩ v4).setCell ⟨b, 5, none⟩ v5).setCell ⟨b, 6, none⟩ v6).setCell ⟨b, 7, none⟩ v7).setCell ⟨b, 8, none⟩ v8).setCell ⟨b, 9, none⟩ v9)
      (pts b (.cells #[v0, v1, v2, v3, v4, v5, v6, v7, v8, v9] t) :: F) :=
  (((((((((h.setTo (off := 0) (v := v0) (by simp; rfl)).setTo (off := 1) (v := v1) (by simp; rfl)).setTo (off := 2) (v := v2) (by simp; rfl)).setTo (off := 3) (v := v3) (by simp; rfl)).setTo (off := 4) (v := v4) (by simp; rfl)).setTo (off := 5) (v := v5) (by simp; rfl)).setTo (off := 6) (v := v6) (by simp; rfl)).setTo (off := 7) (v := v7) (by simp; rfl)).setTo (off := 8) (v := v8) (by simp; rfl)).setTo (off := 9) (v := v9) (by simp)
set_option maxRecDepth 100000 in
set_option maxHeartbeats 8000000 in
theorem Of_val (p : Pic) (v : Value) (w : World) (hv : ItemsAt w v p.items) (hl : p.items.length ≤ 100000) :
    Calls Tryd.prog 13 #[.agg (picCells p v)] w fun r w' => ∃ u, r = .returned (.agg (picCells p u)) ∧ Holds w w' [OwnRefs u p.items] := by
  obtain ⟨n, hn⟩ : ∃ n, p.items.length = n := ⟨_, rfl⟩
  obtain ⟨ao, cap, rfl⟩ := hv.shape' hn
  rw [hn] at hl
  have H0 := ((Holds.start w).alloc (o := .cells (picCells p (.slice ao n cap)) 26)).alloc (o := .cells zeroP 37)
  simp only [picCells, zeroP] at H0
  have H0 := hide H0
  have hv := hide hv
  have hn := hide hn
  obtain ⟨i, hi, hz0, hz1, hz2⟩ := info_parts infoRefItem
  replace hi := hide hi
  replace hz0 := hide hz0
  replace hz1 := hide hz1
  replace hz2 := hide hz2
  unfold picCells
  obtain ⟨c0, c1, c2, c3, c4, c5, c6, c7, c8, c9⟩ := ten_cells H0.out.p1
  go_enter Tryd.func13, Tryd.ntmps13
  go_wp2
  have H1 := ((H0.out.alloc (o := .cells #[.int .i64 p.c.size, .int .i64 p.c.shift, .int .i64 p.c.window, .int .i64 p.c.margin, .int .i64 p.c.hold, .int .i64 p.c.quota, .int .i64 p.c.pin, .int .i64 p.kind, .int .i64 p.now, .slice none 0 0] 37)).ownNil 76 3).p1
  simp only [World.size_alloc] at H1
  generalize hW : ((w.alloc (.cells #[.int .i64 p.c.size, .int .i64 p.c.shift, .int .i64 p.c.window, .int .i64 p.c.margin, .int .i64 p.c.hold, .int .i64 p.c.quota, .int .i64 p.c.pin, .int .i64 p.kind, .int .i64 p.now, .slice ao n cap] 26)).alloc (.cells #[.int .i64 0, .int .i64 0, .int .i64 0, .int .i64 0, .int .i64 0, .int .i64 0, .int .i64 0, .int .i64 0, .int .i64 0, .slice none 0 0] 37)).alloc (.cells #[.int .i64 p.c.size, .int .i64 p.c.shift, .int .i64 p.c.window, .int .i64 p.c.margin, .int .i64 p.c.hold, .int .i64 p.c.quota, .int .i64 p.c.pin, .int .i64 p.kind, .int .i64 p.now, .slice none 0 0] 37) = W0 at H1 ⊢
  obtain ⟨pb, hpb⟩ : ∃ pb, w.heap.size = pb := ⟨_, rfl⟩
  obtain ⟨rs, hrs⟩ : ∃ rs, pb + 1 = rs := ⟨_, rfl⟩
  obtain ⟨xb, hxb⟩ : ∃ xb, rs + 1 = xb := ⟨_, rfl⟩
  simp only [hpb, hrs, hxb] at H1 ⊢
  have H1 := hide H1
  clear hW hpb hrs hxb H0 c0 c1 c2 c3 c4 c5 c6 c7 c8 c9
  go_loopw [4] (fun i wr => ∃ k : Nat, ∃ u, i = .int .i64 k ∧ k ≤ n ∧ Holds w wr [pts xb (.cells #[.int .i64 p.c.size, .int .i64 p.c.shift, .int .i64 p.c.window, .int .i64 p.c.margin, .int .i64 p.c.hold, .int .i64 p.c.quota, .int .i64 p.c.pin, .int .i64 p.kind, .int .i64 p.now, u] 37), OwnRow 76 3 u k (itCells (p.items.take k)), pts rs (.cells #[.int .i64 0, .int .i64 0, .int .i64 0, .int .i64 0, .int .i64 0, .int .i64 0, .int .i64 0, .int .i64 0, .int .i64 0, .slice none 0 0] 37), pts pb (.cells #[.int .i64 p.c.size, .int .i64 p.c.shift, .int .i64 p.c.window, .int .i64 p.c.margin, .int .i64 p.c.hold, .int .i64 p.c.quota, .int .i64 p.c.pin, .int .i64 p.kind, .int .i64 p.now, .slice ao n cap] 26)]) (fun i _ => (n - intOf i).toNat)
  case atStart => exact ⟨0, _, rfl, Nat.zero_le _, H1.out⟩
  case round =>
    obtain ⟨k, u, rfl, hk, hh⟩ := hrel
    obtain ⟨uo, uc, rfl⟩ := ownsShape hh.p1.ownsRow
    have c9 : wr.cell? ⟨xb, 9, none⟩ = some (.slice uo k uc) := hh.cell rfl
    have d9 : wr.cell? ⟨pb, 9, none⟩ = some (.slice ao n cap) := hh.p3.cell rfl
    have hxl := hh.lt
    have hpl := hh.p3.lt
    have H := hide hh
    clear hh
    by_cases hlt : k < n
    · have hlt' : (k : Int) < n := by omega
      obtain ⟨x, hx⟩ : ∃ x, p.items[k]? = some x := ⟨_, List.getElem?_eq_getElem (by have := hn.out; omega)⟩
      obtain ⟨bb, off, rfl, q0, q1, q2⟩ := hv.out.get k hx
      have q0 := H.out.toKeep.cell q0
      have q1 := H.out.toKeep.cell q1
      have q2 := H.out.toKeep.cell q2
      have hbl := World.block_lt_of_cell? wr _ q0
      dsimp only at hbl
      have htk : Hide (itCells (p.items.take (k + 1)) = itCells (p.items.take k) ++ [.string x.key, .string x.val, .int .i64 x.dl]) := ⟨by rw [List.take_add_one, hx]; exact itCells_snoc _ _⟩
      have H6 := hide (H.out.p1.drew.alloc' (o := .cells #[.string x.key, .string x.val, .int .i64 x.dl] 76))
      clear hx
      go_wp2
      go_region_law ((refine step_append_at rfl _ _ 35 rfl w.heap.size 76 i (.agg #[.string ⟨#[]⟩, .string ⟨#[]⟩, .int .i64 0]) 3 40 Tryd.underlying35 hi.out hz0.out hz1.out hz2.out rfl (by decide) _ k (itCells (p.items.take k)) rfl H6.out.ownsRow _ 1 _ [.string x.key, .string x.val, .int .i64 x.dl] rfl rfl (cells3_new _ _ _ _ _ _ (by simp)) (by simp [Value.oneCell']) (by simp only [maxLen]; omega) (by omega) H6.out.size ?_; intro vn wn o1 g1 hb1; obtain ⟨ao2, cap2, rfl⟩ := ownsShape o1; have H7 := hide (H6.out.grown o1 g1 (by rcases hb1 with hb1 | hb1 <;> first | exact .inl hb1 | exact .inr ⟨_, hb1, Nat.le_refl _⟩)).p1; have p9 : wn.cell? ⟨xb, 9, none⟩ = some (.slice uo k uc) := H7.out.cell rfl; have y9 : wn.frozen? ⟨xb, 9, none⟩ = false := H7.out.free; clear o1 g1 hb1))
      all_goals
        go_wp2
        go_roundw
        case rel => exact ⟨k + 1, _, by go_num, hlt, by rw [htk.out]; exact H7.out.setCell⟩
        case measure => (simp [intOf] <;> omega)
    · obtain rfl : n = k := by omega
      obtain ⟨e0, e1, e2, e3, e4, e5, e6, e7, e8, e9⟩ := ten_cells H.out
      have HZ := H.out.p2
      obtain ⟨z0, z1, z2, z3, z4, z5, z6, z7, z8, z9⟩ := ten_cells HZ
      obtain ⟨g0, g1, g2, g3, g4, g5, g6, g7, g8, g9⟩ := free_all HZ
      have HS := hide (set10g HZ (.int .i64 p.c.size) (.int .i64 p.c.shift) (.int .i64 p.c.window) (.int .i64 p.c.margin) (.int .i64 p.c.hold) (.int .i64 p.c.quota) (.int .i64 p.c.pin) (.int .i64 p.kind) (.int .i64 p.now) (.slice uo n uc))
      clear HZ
      go_wp2
      refine bodyPost_ret (ret_ofpic HS.out rfl) rfl ?_
      refine ⟨_, rfl, ?_⟩
      have := HS.out.p2
      rw [List.take_of_length_le (by have := hn.out; omega)] at this
      unfold OwnRefs
      rw [hn.out]
      exact this.only
end Go.Proofs.YtggeppmiifkikaaDoor
