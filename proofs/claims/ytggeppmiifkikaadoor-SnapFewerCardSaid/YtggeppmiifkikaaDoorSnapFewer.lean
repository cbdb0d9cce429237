/- Of a picture that may be, each with fewer items may be, too, and with an earlier time, and with more room; not so with less room than items. -/
import Derived.Test.YtggeppmiifkikaaDoorSnapOk
import Derived.Deep.RegionHeld3
namespace Go.Proofs.YtggeppmiifkikaaDoor
open Go Go.RowKit Go.Shelf

def NilOk (v : Value) : Prop := ∀ k c, v = .slice none k c → c = 0
set_option maxRecDepth 100000 in
theorem pic_nil {W : World} {p : Pic} {v : Value} (h : Arg Tryd.prog W 26 (.agg (picCells p v))) : NilOk v := by
  obtain ⟨cs, hcs, n, hs⟩ := arg_struct Tryd.underlying26 h
  cases hcs
  obtain ⟨hl, n', hf⟩ := shp_struct Tryd.underlying26 hs
  have es : Tryd.prog.cellsOf 24 = 1 := by kernel_rfl
  have f3 := hf _ (List.mem_cons_of_mem _ (List.mem_cons_of_mem _ (List.mem_cons_of_mem _ List.mem_cons_self)))
  simp only [picCells, es, List.drop_zero, List.drop_succ_cons, List.take_succ_cons, List.take_nil] at f3
  rcases shp_slice Tryd.underlying24 f3 with he | ⟨a, len, cap, n', he, h1, h2, h3⟩
  · simp only [List.cons.injEq, and_true] at he
    subst he
    intro k c hk
    cases hk
    rfl
  · simp only [List.cons.injEq, and_true] at he
    subst he
    intro k c hk
    cases hk
theorem itCells_length (l : List It) : (itCells l).length = l.length * 3 := by
  induction l with
  | nil => rfl
  | cons x l ih =>
    have : itCells (x :: l) = .string x.key :: .string x.val :: .int .i64 x.dl :: itCells l := rfl
    rw [this]
    simp only [List.length_cons, ih]
    omega
theorem itCells_one (l : List It) : ∀ u ∈ itCells l, u.oneCell' = true := by
  intro u hu
  unfold itCells at hu
  obtain ⟨x, _, hx⟩ := List.mem_flatMap.1 hu
  simp only [List.mem_cons, List.not_mem_nil, or_false] at hx
  rcases hx with rfl | rfl | rfl <;> rfl
theorem itCells_inv : ∀ (l : List It) (j : Nat) (u : Value), (itCells l)[j]? = some u → ∃ q x, l[q]? = some x ∧ ((j = q * 3 ∧ u = .string x.key) ∨ (j = q * 3 + 1 ∧ u = .string x.val) ∨ (j = q * 3 + 1 + 1 ∧ u = .int .i64 x.dl))
  | [], j, u, h => by simp [itCells] at h
  | x :: l, 0, u, h => by cases h; exact ⟨0, x, rfl, .inl ⟨rfl, rfl⟩⟩
  | x :: l, 1, u, h => by cases h; exact ⟨0, x, rfl, .inr (.inl ⟨rfl, rfl⟩)⟩
  | x :: l, 2, u, h => by cases h; exact ⟨0, x, rfl, .inr (.inr ⟨rfl, rfl⟩)⟩
  | x :: l, j + 3, u, h => by
    obtain ⟨q, y, h1, h2⟩ := itCells_inv l j u h
    refine ⟨q + 1, y, h1, ?_⟩
    rcases h2 with ⟨rfl, e⟩ | ⟨rfl, e⟩ | ⟨rfl, e⟩
    · exact .inl ⟨by omega, e⟩
    · exact .inr (.inl ⟨by omega, e⟩)
    · exact .inr (.inr ⟨by omega, e⟩)
/-- The first so many items' cells, where they stand. -/
theorem ItemsAt.news {w : World} {a : Addr} {n cap : Nat} {l : List It} (h : ItemsAt w (.slice (some a) n cap) l) (m : Nat) : ∀ j u, (itCells (l.take m))[j]? = some u → w.cell? (a.add j) = some u := by
  intro j u hj
  obtain ⟨q, x, hx, hu⟩ := itCells_inv _ _ _ hj
  have hx' : l[q]? = some x := by
    rw [List.getElem?_take] at hx
    split at hx
    · exact hx
    · cases hx
  rcases h with ⟨_, rfl⟩ | ⟨b, off, cap', he, e1, e2, e3⟩
  · cases hx'
  · simp only [Value.slice.injEq, Option.some.injEq] at he
    obtain ⟨rfl, _, _⟩ := he
    have hadd : ∀ j, (⟨b, off, none⟩ : Addr).add j = ⟨b, off + j, none⟩ := fun j => by unfold Addr.add; split <;> simp_all
    obtain ⟨a1, a2, a3⟩ := e3 q x hx'
    rw [hadd]
    rcases hu with ⟨rfl, rfl⟩ | ⟨rfl, rfl⟩ | ⟨rfl, rfl⟩
    · exact a1
    · rw [← Nat.add_assoc]; exact a2
    · rw [← Nat.add_assoc, ← Nat.add_assoc]; exact a3
theorem own_none {g w : World} {b : Nat} {e : TypeId} {F : List SProp} (h : Holds g w (pts b (.cells #[] e) :: F)) : Holds g w (OwnRow e 3 (.slice (some ⟨b, 0, none⟩) 0 0) 0 [] :: F) :=
  h.head fun _ hx => ⟨rfl, .inr ⟨b, 0, _, rfl, Nat.le_refl _, by decide, rfl, rfl, hx⟩⟩
theorem wpList_append_none_own {P : Program} {ops : Array Oper} {rest : List Oper} {o : Oper} {a : Act} {w : World} {Q : Exit → Act → World → Prop} (hgd : o.guard = none) (s x : Operand) (t : TypeId)
    (ho : o.op = .call { callee := .builtin .append, args := #[s, x], argTypes := #[t, t] }) (base : Nat) (e : TypeId) (i : TypeInfo) (size : Nat) (ht : P.underlying t = some (.slice e)) (hi : P.info? e = some i)
    (v : Value) (n : Nat) (xs : List Value) (hs : a.eval s = v) (hown : w.ownsRow base e size v n xs) (hx : a.eval x = .slice none 0 0)
    (h : ∀ v' w', w'.ownsRow base e size v' n xs → w.grownBy w' v.ownBlock → (v'.ownBlock = v.ownBlock ∨ v'.ownBlock = some w.heap.size) → wpList P ops Q rest (a.put o.dst v') w') : wpList P ops Q (o :: rest) a w := by
  refine wpList_plain hgd fun K hK => ?_
  have hrun := run_append_owned_none (P := P) w base t o.type e i size ht hi v n xs hown
  unfold Oper.wp
  simp [execOp, ho, resolve, invoke, builtin, hs, hx, hrun, Result.andThen]
  exact hK _ _ (h v w hown ⟨rfl, rfl, rfl, Nat.le_refl _, fun _ _ _ => rfl⟩ (.inl rfl))
theorem right_nil {p : Pic} {args : Array Value} {w : World} (he : picE p = .nil) (h : Calls Tryd.prog 17 args w fun r w' => ∃ u, r = .returned u ∧ Keep w w' ∧ ErrAt w' (picE p) u) :
    Calls Tryd.prog 17 args w fun r w' => r = .returned .nilIface ∧ Keep w w' := by
  refine h.mono ?_
  rintro r w' ⟨u, rfl, hk, hu⟩
  rw [he] at hu
  obtain rfl := hu
  exact ⟨rfl, hk⟩
theorem right_bad {p : Pic} {args : Array Value} {w : World} (he : (picE p).isNil = false) (h : Calls Tryd.prog 17 args w fun r w' => ∃ u, r = .returned u ∧ Keep w w' ∧ ErrAt w' (picE p) u) :
    Calls Tryd.prog 17 args w fun r w' => ∃ b, r = .returned (.iface 55 (.pointer (some ⟨b, 0, none⟩))) ∧ Keep w w' := by
  refine h.mono ?_
  rintro r w' ⟨u, rfl, hk, hu⟩
  rcases wrapE_shape (picE0 p) with h | ⟨e, h⟩
  · rw [show picE p = .nil from h] at he; cases he
  · rw [show picE p = .fault tSnap ⟨#[]⟩ e from h] at hu
    obtain ⟨b, ve, rfl, _⟩ := hu
    exact ⟨b, rfl, hk⟩
theorem fewer5 {g w : World} {pb : Nat} {o q : Obj} {F : List SProp} (h : Holds g w (pts pb o :: F)) : Hide (Holds g ((w.alloc q).alloc (.cells #[] 53)) (OwnRow 53 3 (.slice (some ⟨w.heap.size + 1, 0, none⟩) 0 0) 0 [] :: pts w.heap.size q :: pts pb o :: F)) := by
  have h5 := own_none ((h.alloc (o := q)).alloc (o := .cells #[] 53))
  rw [World.size_alloc] at h5
  exact ⟨h5⟩
set_option maxRecDepth 100000 in
set_option maxHeartbeats 8000000 in
theorem walk_SnapFewer (p : Pic) (v : Value) (less size now : Int) (W : World) (hE : Env W) (hv : ItemsAt W v p.items) (hz : NilOk v) (hf : PicFits p) :
    Calls Tryd.prog 7 #[.agg (picCells p v), .int .i64 less, .int .i64 size, .int .i64 now] W fun r w' => r = .returned (.bool true) ∧ Holds W w' [] := by
  have hE := hide hE
  obtain ⟨n, hn⟩ : ∃ n, p.items.length = n := ⟨_, rfl⟩
  obtain ⟨ao, cap, rfl⟩ := hv.shape
  rw [hn] at hv hz
  have H0 := (Holds.start W).alloc (o := .cells (picCells p (.slice ao n cap)) 26)
  simp only [picCells] at H0
  have H0 := hide H0
  have cF := hide (fun w hv' => Few_val p (.slice ao n cap) w hv' hf.len)
  have cR := hide (fun w hv' => Snap_Right p (.slice ao n cap) w hv')
  have hv := hide hv
  have hf := hide hf
  simp only [picCells] at cF cR
  unfold picCells
  rw [hn]
  by_cases hfew : FewL p.items
  · have hb := hide (decide_eq_true hfew)
    by_cases hg : 0 ≤ less ∧ 0 ≤ size ∧ size ≤ 16777216 ∧ 0 ≤ now
    · obtain ⟨g0, g1, g2, g3⟩ := hg
      rcases wrapE_shape (picE0 p) with he | ⟨e, he⟩
      · have hok := okP_of he
        have he : picE p = .nil := he
        rw [he] at cR
        obtain ⟨m, hm⟩ : ∃ m : Nat, min less (n : Int) = m := ⟨(min less (n : Int)).toNat, by omega⟩
        have hmn : m ≤ n := by omega
        have hmc : m ≤ cap := by
          rcases hv.out with ⟨_, hnil⟩ | ⟨b, off, cap', he', e1, e2, e3⟩
          · rw [hnil] at hn
            have : n = 0 := hn.symm
            omega
          · simp only [Value.slice.injEq] at he'
            omega
        have hmi : (m : Int) ≤ (cap : Int) := by omega
        have hm0 : (0 : Int) ≤ (m : Int) := by omega
        have hn40 : n ≤ 40 := by have := hfew.1; omega
        obtain ⟨nw, hnw'⟩ : ∃ nw, min now p.now = nw := ⟨_, rfl⟩
        have hokq := hide (hok.fewer m)
        have hokr := hide (hok.earlier now g3)
        rw [hnw'] at hokr
        have hlt : (p.items.take m).length = m := by rw [List.length_take]; omega
        have hlt := hide hlt
        obtain ⟨i, hi, hz0, hz1, hz2⟩ := info_parts infoItem
        replace hi := hide hi
        replace hz0 := hide hz0
        replace hz1 := hide hz1
        replace hz2 := hide hz2
        have hokH := hide hok
        have hn := hide hn
        clear hok he hfew
        cases ao with
        | none =>
          obtain rfl : cap = 0 := hz _ _ rfl
          obtain rfl : m = 0 := by omega
          have ht0 : p.items.take 0 = [] := rfl
          rw [ht0] at hlt hokq
          go_enter Tryd.func7, Tryd.ntmps7
          go_wp2_with (first
            | (go_at_call 9; (with_reducible refine (awake16 _ (hE.out.keep H0.out.toKeep)).mono ?_); rintro r w1 ⟨rfl, h⟩; have H1 := hide (H0.out.keep h); obtain ⟨c0, c1, c2, c3, c4, c5, c6, c7, c8, c9⟩ := ten_cells H1.out; clear h)
            | (go_at_call 10; (with_reducible refine (cF.out _ (hv.out.keep H1.out.toKeep) _ hb.out).mono ?_); rintro r w2 ⟨rfl, h⟩; have H2 := hide (H1.out.keep h); obtain ⟨c0, c1, c2, c3, c4, c5, c6, c7, c8, c9⟩ := ten_cells H2.out; clear h)
            | (go_at_call 17; (with_reducible refine (cR.out _ (hv.out.keep H2.out.toKeep)).mono ?_); rintro r w3 ⟨u, rfl, h, rfl⟩; have H3 := hide (H2.out.keep h); obtain ⟨c0, c1, c2, c3, c4, c5, c6, c7, c8, c9⟩ := ten_cells H3.out; have hpl := H3.out.lt; have H5 := fewer5 (q := .cells #[.int .i64 p.c.size, .int .i64 p.c.shift, .int .i64 p.c.window, .int .i64 p.c.margin, .int .i64 p.c.hold, .int .i64 p.c.quota, .int .i64 p.c.pin, .int .i64 p.kind, .int .i64 p.now, .slice none n 0] 26) H3.out; clear h)
            | (at_builtin; refine wpList_append_none_own rfl _ _ 24 rfl W.heap.size 53 i 3 Tryd.underlying24 hi.out _ 0 [] rfl H5.out.ownsRow rfl ?_; intro vq w6 o1 g1 hb1; obtain ⟨ao2, cap2, rfl⟩ := ownsShape o1; have H6 := H5.out.grown o1 g1 (by rcases hb1 with hb1 | hb1 <;> first | exact .inl hb1 | exact .inr ⟨_, hb1, Nat.le_refl _⟩); have y0 : w6.cell? ⟨w3.heap.size, 9, none⟩ = some (.slice none n 0) := H6.p1.cell rfl; have y1 : w6.frozen? ⟨w3.heap.size, 9, none⟩ = false := H6.p1.free; have H7 := hide (H6.p1.setCell (off := 9) (v := .slice ao2 0 cap2)); obtain ⟨d0, d1, d2, d3, d4, d5, d6, d7, d8, d9⟩ := ten_cells H7.out.p2; have x8 := Holds.cell (off := 8) (v := .int .i64 p.now) (Holds.alloc (o := .cells #[.int .i64 p.c.size, .int .i64 p.c.shift, .int .i64 p.c.window, .int .i64 p.c.margin, .int .i64 p.c.hold, .int .i64 p.c.quota, .int .i64 p.c.pin, .int .i64 p.kind, .int .i64 p.now, .slice none n 0] 26) H7.out).p3 rfl; have H8 := hide (H7.out.alloc (o := .cells #[.int .i64 p.c.size, .int .i64 p.c.shift, .int .i64 p.c.window, .int .i64 p.c.margin, .int .i64 p.c.hold, .int .i64 p.c.quota, .int .i64 p.c.pin, .int .i64 p.kind, .int .i64 nw, .slice none n 0] 26)); obtain ⟨e0, e1, e2, e3, e4, e5, e6, e7, e8, e9⟩ := ten_cells H8.out.p3; clear o1 g1 hb1 H6))
          have H9 := H8.out.alloc (o := .cells #[.int .i64 size, .int .i64 p.c.shift, .int .i64 p.c.window, .int .i64 p.c.margin, .int .i64 p.c.hold, .int .i64 p.c.quota, .int .i64 p.c.pin, .int .i64 p.kind, .int .i64 p.now, .slice none n 0] 26)
          simp only [World.size_alloc, World.size_setCell] at H9
          generalize hW : ((w6.setCell ⟨w3.heap.size, 9, none⟩ (.slice ao2 0 cap2)).alloc (.cells #[.int .i64 p.c.size, .int .i64 p.c.shift, .int .i64 p.c.window, .int .i64 p.c.margin, .int .i64 p.c.hold, .int .i64 p.c.quota, .int .i64 p.c.pin, .int .i64 p.kind, .int .i64 nw, .slice none n 0] 26)).alloc (.cells #[.int .i64 size, .int .i64 p.c.shift, .int .i64 p.c.window, .int .i64 p.c.margin, .int .i64 p.c.hold, .int .i64 p.c.quota, .int .i64 p.c.pin, .int .i64 p.kind, .int .i64 p.now, .slice none n 0] 26) = W7 at H9 ⊢
          obtain ⟨qb, hqb⟩ : ∃ qb, w3.heap.size = qb := ⟨_, rfl⟩
          obtain ⟨rb, hrb⟩ : ∃ rb, w6.heap.size = rb := ⟨_, rfl⟩
          obtain ⟨ub, hub⟩ : ∃ ub, rb + 1 = ub := ⟨_, rfl⟩
          obtain ⟨pb, hpb⟩ : ∃ pb, W.heap.size = pb := ⟨_, rfl⟩
          simp only [hqb, hrb, hub, hpb] at H9 ⊢
          have tu := ten_cells H9
          have tr := ten_cells H9.p1
          have tq := ten_cells H9.p2
          have tp : W7.cell? ⟨pb, 9, none⟩ = some (.slice none n 0) := H9.p4.cell rfl
          have hk7 := hide H9.nil
          have hiq := H9.p3.itemsAt (xs := []) rfl
          have hiv := hv.out.keep H9.toKeep
          have st : Hide (∀ w', Keep W7 w' → (w'.cell? ⟨qb, 0, none⟩ = some (.int .i64 p.c.size) ∧ w'.cell? ⟨qb, 1, none⟩ = some (.int .i64 p.c.shift) ∧ w'.cell? ⟨qb, 2, none⟩ = some (.int .i64 p.c.window) ∧ w'.cell? ⟨qb, 3, none⟩ = some (.int .i64 p.c.margin) ∧ w'.cell? ⟨qb, 4, none⟩ = some (.int .i64 p.c.hold) ∧ w'.cell? ⟨qb, 5, none⟩ = some (.int .i64 p.c.quota) ∧ w'.cell? ⟨qb, 6, none⟩ = some (.int .i64 p.c.pin) ∧ w'.cell? ⟨qb, 7, none⟩ = some (.int .i64 p.kind) ∧ w'.cell? ⟨qb, 8, none⟩ = some (.int .i64 p.now) ∧ w'.cell? ⟨qb, 9, none⟩ = some (.slice ao2 0 cap2)) ∧ (w'.cell? ⟨rb, 0, none⟩ = some (.int .i64 p.c.size) ∧ w'.cell? ⟨rb, 1, none⟩ = some (.int .i64 p.c.shift) ∧ w'.cell? ⟨rb, 2, none⟩ = some (.int .i64 p.c.window) ∧ w'.cell? ⟨rb, 3, none⟩ = some (.int .i64 p.c.margin) ∧ w'.cell? ⟨rb, 4, none⟩ = some (.int .i64 p.c.hold) ∧ w'.cell? ⟨rb, 5, none⟩ = some (.int .i64 p.c.quota) ∧ w'.cell? ⟨rb, 6, none⟩ = some (.int .i64 p.c.pin) ∧ w'.cell? ⟨rb, 7, none⟩ = some (.int .i64 p.kind) ∧ w'.cell? ⟨rb, 8, none⟩ = some (.int .i64 nw) ∧ w'.cell? ⟨rb, 9, none⟩ = some (.slice none n 0)) ∧ (w'.cell? ⟨ub, 0, none⟩ = some (.int .i64 size) ∧ w'.cell? ⟨ub, 1, none⟩ = some (.int .i64 p.c.shift) ∧ w'.cell? ⟨ub, 2, none⟩ = some (.int .i64 p.c.window) ∧ w'.cell? ⟨ub, 3, none⟩ = some (.int .i64 p.c.margin) ∧ w'.cell? ⟨ub, 4, none⟩ = some (.int .i64 p.c.hold) ∧ w'.cell? ⟨ub, 5, none⟩ = some (.int .i64 p.c.quota) ∧ w'.cell? ⟨ub, 6, none⟩ = some (.int .i64 p.c.pin) ∧ w'.cell? ⟨ub, 7, none⟩ = some (.int .i64 p.kind) ∧ w'.cell? ⟨ub, 8, none⟩ = some (.int .i64 p.now) ∧ w'.cell? ⟨ub, 9, none⟩ = some (.slice none n 0)) ∧ w'.cell? ⟨pb, 9, none⟩ = some (.slice none n 0)) :=
            ⟨fun w' k => ⟨⟨k.cell tq.1, k.cell tq.2.1, k.cell tq.2.2.1, k.cell tq.2.2.2.1, k.cell tq.2.2.2.2.1, k.cell tq.2.2.2.2.2.1, k.cell tq.2.2.2.2.2.2.1, k.cell tq.2.2.2.2.2.2.2.1, k.cell tq.2.2.2.2.2.2.2.2.1, k.cell tq.2.2.2.2.2.2.2.2.2⟩, ⟨k.cell tr.1, k.cell tr.2.1, k.cell tr.2.2.1, k.cell tr.2.2.2.1, k.cell tr.2.2.2.2.1, k.cell tr.2.2.2.2.2.1, k.cell tr.2.2.2.2.2.2.1, k.cell tr.2.2.2.2.2.2.2.1, k.cell tr.2.2.2.2.2.2.2.2.1, k.cell tr.2.2.2.2.2.2.2.2.2⟩, ⟨k.cell tu.1, k.cell tu.2.1, k.cell tu.2.2.1, k.cell tu.2.2.2.1, k.cell tu.2.2.2.2.1, k.cell tu.2.2.2.2.2.1, k.cell tu.2.2.2.2.2.2.1, k.cell tu.2.2.2.2.2.2.2.1, k.cell tu.2.2.2.2.2.2.2.2.1, k.cell tu.2.2.2.2.2.2.2.2.2⟩, k.cell tp⟩⟩
          have cq := hide (fun w k => right_nil hokq.out.nil (Snap_Right _ (.slice ao2 0 cap2) w (hiq.keep (w' := w) k)))
          have cr := hide (fun w k => right_nil hokr.out.nil (Snap_Right _ (.slice none n 0) w (hiv.keep (w' := w) k)))
          have cu0 := hide (fun w k => Snap_Right ⟨⟨size, p.c.shift, p.c.window, p.c.margin, p.c.hold, p.c.quota, p.c.pin⟩, p.kind, p.now, p.items⟩ (.slice none n 0) w (hiv.keep (w' := w) k))
          simp only [picCells] at cq cr cu0
          have k7 := hide (Keep.refl W7).drew
          clear tu tr tq tp hiq hiv H9 hW hqb hrb hub hpb d0 d1 d2 d3 d4 d5 d6 d7 d8 d9 e0 e1 e2 e3 e4 e5 e6 e7 e8 e9 x8 y0 y1 c0 c1 c2 c3 c4 c5 c6 c7 c8 c9 H0 H1 H2 H3 H5 H7 H8
          by_cases hsz : (n : Int) ≤ size
          · have hoku := (hokH.out.sized size g1 g2 (by rw [hn.out]; exact hsz)).nil
            have cu := hide (fun w (k : Keep W7 w) => right_nil hoku (cu0.out w k))
            clear hoku cu0
            go_region_held3 (fun w' => (w'.cell? ⟨qb, 0, none⟩ = some (.int .i64 p.c.size) ∧ w'.cell? ⟨qb, 1, none⟩ = some (.int .i64 p.c.shift) ∧ w'.cell? ⟨qb, 2, none⟩ = some (.int .i64 p.c.window) ∧ w'.cell? ⟨qb, 3, none⟩ = some (.int .i64 p.c.margin) ∧ w'.cell? ⟨qb, 4, none⟩ = some (.int .i64 p.c.hold) ∧ w'.cell? ⟨qb, 5, none⟩ = some (.int .i64 p.c.quota) ∧ w'.cell? ⟨qb, 6, none⟩ = some (.int .i64 p.c.pin) ∧ w'.cell? ⟨qb, 7, none⟩ = some (.int .i64 p.kind) ∧ w'.cell? ⟨qb, 8, none⟩ = some (.int .i64 p.now) ∧ w'.cell? ⟨qb, 9, none⟩ = some (.slice ao2 0 cap2)) ∧ (w'.cell? ⟨rb, 0, none⟩ = some (.int .i64 p.c.size) ∧ w'.cell? ⟨rb, 1, none⟩ = some (.int .i64 p.c.shift) ∧ w'.cell? ⟨rb, 2, none⟩ = some (.int .i64 p.c.window) ∧ w'.cell? ⟨rb, 3, none⟩ = some (.int .i64 p.c.margin) ∧ w'.cell? ⟨rb, 4, none⟩ = some (.int .i64 p.c.hold) ∧ w'.cell? ⟨rb, 5, none⟩ = some (.int .i64 p.c.quota) ∧ w'.cell? ⟨rb, 6, none⟩ = some (.int .i64 p.c.pin) ∧ w'.cell? ⟨rb, 7, none⟩ = some (.int .i64 p.kind) ∧ w'.cell? ⟨rb, 8, none⟩ = some (.int .i64 nw) ∧ w'.cell? ⟨rb, 9, none⟩ = some (.slice none n 0)) ∧ (w'.cell? ⟨ub, 0, none⟩ = some (.int .i64 size) ∧ w'.cell? ⟨ub, 1, none⟩ = some (.int .i64 p.c.shift) ∧ w'.cell? ⟨ub, 2, none⟩ = some (.int .i64 p.c.window) ∧ w'.cell? ⟨ub, 3, none⟩ = some (.int .i64 p.c.margin) ∧ w'.cell? ⟨ub, 4, none⟩ = some (.int .i64 p.c.hold) ∧ w'.cell? ⟨ub, 5, none⟩ = some (.int .i64 p.c.quota) ∧ w'.cell? ⟨ub, 6, none⟩ = some (.int .i64 p.c.pin) ∧ w'.cell? ⟨ub, 7, none⟩ = some (.int .i64 p.kind) ∧ w'.cell? ⟨ub, 8, none⟩ = some (.int .i64 p.now) ∧ w'.cell? ⟨ub, 9, none⟩ = some (.slice none n 0)) ∧ w'.cell? ⟨pb, 9, none⟩ = some (.slice none n 0)) (exact st.out _ k7.out)
              ((first
                | (go_at_call 17; (with_reducible refine (cq.out _ k7.out).mono ?_); rintro r wn ⟨rfl, h⟩; replace k7 := hide (k7.out.trans h); clear h)
                | (go_at_call 17; (with_reducible refine (cr.out _ k7.out).mono ?_); rintro r wn ⟨rfl, h⟩; replace k7 := hide (k7.out.trans h); clear h)
                | (go_at_call 17; (with_reducible refine (cu.out _ k7.out).mono ?_); rintro r wn ⟨rfl, h⟩; replace k7 := hide (k7.out.trans h); clear h)))
            all_goals
              go_wp2
              go_ret
              exact ⟨rfl, hk7.out.keep k7.out⟩
          · have hbad := OkP.tooSmall (p := p) size (by rw [hn.out]; exact hsz)
            have cu := hide (fun w (k : Keep W7 w) => right_bad hbad (cu0.out w k))
            have hszd : decide ((n : Int) ≤ size) = false := decide_eq_false hsz
            clear hbad cu0
            go_region_held3 (fun w' => (w'.cell? ⟨qb, 0, none⟩ = some (.int .i64 p.c.size) ∧ w'.cell? ⟨qb, 1, none⟩ = some (.int .i64 p.c.shift) ∧ w'.cell? ⟨qb, 2, none⟩ = some (.int .i64 p.c.window) ∧ w'.cell? ⟨qb, 3, none⟩ = some (.int .i64 p.c.margin) ∧ w'.cell? ⟨qb, 4, none⟩ = some (.int .i64 p.c.hold) ∧ w'.cell? ⟨qb, 5, none⟩ = some (.int .i64 p.c.quota) ∧ w'.cell? ⟨qb, 6, none⟩ = some (.int .i64 p.c.pin) ∧ w'.cell? ⟨qb, 7, none⟩ = some (.int .i64 p.kind) ∧ w'.cell? ⟨qb, 8, none⟩ = some (.int .i64 p.now) ∧ w'.cell? ⟨qb, 9, none⟩ = some (.slice ao2 0 cap2)) ∧ (w'.cell? ⟨rb, 0, none⟩ = some (.int .i64 p.c.size) ∧ w'.cell? ⟨rb, 1, none⟩ = some (.int .i64 p.c.shift) ∧ w'.cell? ⟨rb, 2, none⟩ = some (.int .i64 p.c.window) ∧ w'.cell? ⟨rb, 3, none⟩ = some (.int .i64 p.c.margin) ∧ w'.cell? ⟨rb, 4, none⟩ = some (.int .i64 p.c.hold) ∧ w'.cell? ⟨rb, 5, none⟩ = some (.int .i64 p.c.quota) ∧ w'.cell? ⟨rb, 6, none⟩ = some (.int .i64 p.c.pin) ∧ w'.cell? ⟨rb, 7, none⟩ = some (.int .i64 p.kind) ∧ w'.cell? ⟨rb, 8, none⟩ = some (.int .i64 nw) ∧ w'.cell? ⟨rb, 9, none⟩ = some (.slice none n 0)) ∧ (w'.cell? ⟨ub, 0, none⟩ = some (.int .i64 size) ∧ w'.cell? ⟨ub, 1, none⟩ = some (.int .i64 p.c.shift) ∧ w'.cell? ⟨ub, 2, none⟩ = some (.int .i64 p.c.window) ∧ w'.cell? ⟨ub, 3, none⟩ = some (.int .i64 p.c.margin) ∧ w'.cell? ⟨ub, 4, none⟩ = some (.int .i64 p.c.hold) ∧ w'.cell? ⟨ub, 5, none⟩ = some (.int .i64 p.c.quota) ∧ w'.cell? ⟨ub, 6, none⟩ = some (.int .i64 p.c.pin) ∧ w'.cell? ⟨ub, 7, none⟩ = some (.int .i64 p.kind) ∧ w'.cell? ⟨ub, 8, none⟩ = some (.int .i64 p.now) ∧ w'.cell? ⟨ub, 9, none⟩ = some (.slice none n 0)) ∧ w'.cell? ⟨pb, 9, none⟩ = some (.slice none n 0)) (exact st.out _ k7.out)
              ((first
                | (go_at_call 17; (with_reducible refine (cq.out _ k7.out).mono ?_); rintro r wn ⟨rfl, h⟩; replace k7 := hide (k7.out.trans h); clear h)
                | (go_at_call 17; (with_reducible refine (cr.out _ k7.out).mono ?_); rintro r wn ⟨rfl, h⟩; replace k7 := hide (k7.out.trans h); clear h)
                | (go_at_call 17; (with_reducible refine (cu.out _ k7.out).mono ?_); rintro r wn ⟨bf, rfl, h⟩; replace k7 := hide (k7.out.trans h); clear h)))
            all_goals
              go_wp2
              go_ret
              exact ⟨rfl, hk7.out.keep k7.out⟩
        | some a =>
          have hnews := hide (fun w k => (hv.out.keep k).news (w := w) m)
          have hn1 := hide (itCells_one (p.items.take m))
          have hn2 : Hide ((itCells (p.items.take m)).length = m * 3) := ⟨by rw [itCells_length, hlt.out]⟩
          go_enter Tryd.func7, Tryd.ntmps7
          go_wp2_with (first
            | (go_at_call 9; (with_reducible refine (awake16 _ (hE.out.keep H0.out.toKeep)).mono ?_); rintro r w1 ⟨rfl, h⟩; have H1 := hide (H0.out.keep h); obtain ⟨c0, c1, c2, c3, c4, c5, c6, c7, c8, c9⟩ := ten_cells H1.out; clear h)
            | (go_at_call 10; (with_reducible refine (cF.out _ (hv.out.keep H1.out.toKeep) _ hb.out).mono ?_); rintro r w2 ⟨rfl, h⟩; have H2 := hide (H1.out.keep h); obtain ⟨c0, c1, c2, c3, c4, c5, c6, c7, c8, c9⟩ := ten_cells H2.out; clear h)
            | (go_at_call 17; (with_reducible refine (cR.out _ (hv.out.keep H2.out.toKeep)).mono ?_); rintro r w3 ⟨u, rfl, h, rfl⟩; have H3 := hide (H2.out.keep h); obtain ⟨c0, c1, c2, c3, c4, c5, c6, c7, c8, c9⟩ := ten_cells H3.out; have hpl := H3.out.lt; have H5 := fewer5 (q := .cells #[.int .i64 p.c.size, .int .i64 p.c.shift, .int .i64 p.c.window, .int .i64 p.c.margin, .int .i64 p.c.hold, .int .i64 p.c.quota, .int .i64 p.c.pin, .int .i64 p.kind, .int .i64 p.now, .slice (some a) n cap] 26) H3.out; clear h)
            | (at_builtin; refine wpList_append_own_at _ rfl _ _ 24 rfl W.heap.size 53 i (.agg #[.string ⟨#[]⟩, .string ⟨#[]⟩, .int .i64 0]) 3 40 Tryd.underlying24 hi.out hz0.out hz1.out hz2.out rfl (by decide) _ 0 [] rfl H5.out.ownsRow a m _ (itCells (p.items.take m)) rfl hn2.out (hnews.out _ H5.out.toKeep) hn1.out (by simp only [maxLen]; omega) (by omega) H5.out.size ?_; intro vq w6 o1 g1 _ hb1; obtain ⟨ao2, cap2, rfl⟩ := ownsShape o1; have H6 := H5.out.grown o1 g1 (by rcases hb1 with hb1 | hb1 <;> first | exact .inl hb1 | exact .inr ⟨_, hb1, Nat.le_refl _⟩); rw [Nat.zero_add, List.nil_append] at H6; have y0 : w6.cell? ⟨w3.heap.size, 9, none⟩ = some (.slice (some a) n cap) := H6.p1.cell rfl; have y1 : w6.frozen? ⟨w3.heap.size, 9, none⟩ = false := H6.p1.free; have H7 := hide (H6.p1.setCell (off := 9) (v := .slice ao2 m cap2)); obtain ⟨d0, d1, d2, d3, d4, d5, d6, d7, d8, d9⟩ := ten_cells H7.out.p2; have x8 := Holds.cell (off := 8) (v := .int .i64 p.now) (Holds.alloc (o := .cells #[.int .i64 p.c.size, .int .i64 p.c.shift, .int .i64 p.c.window, .int .i64 p.c.margin, .int .i64 p.c.hold, .int .i64 p.c.quota, .int .i64 p.c.pin, .int .i64 p.kind, .int .i64 p.now, .slice (some a) n cap] 26) H7.out).p3 rfl; have H8 := hide (H7.out.alloc (o := .cells #[.int .i64 p.c.size, .int .i64 p.c.shift, .int .i64 p.c.window, .int .i64 p.c.margin, .int .i64 p.c.hold, .int .i64 p.c.quota, .int .i64 p.c.pin, .int .i64 p.kind, .int .i64 nw, .slice (some a) n cap] 26)); obtain ⟨e0, e1, e2, e3, e4, e5, e6, e7, e8, e9⟩ := ten_cells H8.out.p3; clear o1 g1 hb1 H6))
          have H9 := H8.out.alloc (o := .cells #[.int .i64 size, .int .i64 p.c.shift, .int .i64 p.c.window, .int .i64 p.c.margin, .int .i64 p.c.hold, .int .i64 p.c.quota, .int .i64 p.c.pin, .int .i64 p.kind, .int .i64 p.now, .slice (some a) n cap] 26)
          simp only [World.size_alloc, World.size_setCell] at H9
          generalize hW : ((w6.setCell ⟨w3.heap.size, 9, none⟩ (.slice ao2 m cap2)).alloc (.cells #[.int .i64 p.c.size, .int .i64 p.c.shift, .int .i64 p.c.window, .int .i64 p.c.margin, .int .i64 p.c.hold, .int .i64 p.c.quota, .int .i64 p.c.pin, .int .i64 p.kind, .int .i64 nw, .slice (some a) n cap] 26)).alloc (.cells #[.int .i64 size, .int .i64 p.c.shift, .int .i64 p.c.window, .int .i64 p.c.margin, .int .i64 p.c.hold, .int .i64 p.c.quota, .int .i64 p.c.pin, .int .i64 p.kind, .int .i64 p.now, .slice (some a) n cap] 26) = W7 at H9 ⊢
          obtain ⟨qb, hqb⟩ : ∃ qb, w3.heap.size = qb := ⟨_, rfl⟩
          obtain ⟨rb, hrb⟩ : ∃ rb, w6.heap.size = rb := ⟨_, rfl⟩
          obtain ⟨ub, hub⟩ : ∃ ub, rb + 1 = ub := ⟨_, rfl⟩
          obtain ⟨pb, hpb⟩ : ∃ pb, W.heap.size = pb := ⟨_, rfl⟩
          simp only [hqb, hrb, hub, hpb] at H9 ⊢
          have tu := ten_cells H9
          have tr := ten_cells H9.p1
          have tq := ten_cells H9.p2
          have tp : W7.cell? ⟨pb, 9, none⟩ = some (.slice (some a) n cap) := H9.p4.cell rfl
          have hk7 := hide H9.nil
          have hiq := H9.p3.itemsAt hlt.out
          have hiv := hv.out.keep H9.toKeep
          have st : Hide (∀ w', Keep W7 w' → (w'.cell? ⟨qb, 0, none⟩ = some (.int .i64 p.c.size) ∧ w'.cell? ⟨qb, 1, none⟩ = some (.int .i64 p.c.shift) ∧ w'.cell? ⟨qb, 2, none⟩ = some (.int .i64 p.c.window) ∧ w'.cell? ⟨qb, 3, none⟩ = some (.int .i64 p.c.margin) ∧ w'.cell? ⟨qb, 4, none⟩ = some (.int .i64 p.c.hold) ∧ w'.cell? ⟨qb, 5, none⟩ = some (.int .i64 p.c.quota) ∧ w'.cell? ⟨qb, 6, none⟩ = some (.int .i64 p.c.pin) ∧ w'.cell? ⟨qb, 7, none⟩ = some (.int .i64 p.kind) ∧ w'.cell? ⟨qb, 8, none⟩ = some (.int .i64 p.now) ∧ w'.cell? ⟨qb, 9, none⟩ = some (.slice ao2 m cap2)) ∧ (w'.cell? ⟨rb, 0, none⟩ = some (.int .i64 p.c.size) ∧ w'.cell? ⟨rb, 1, none⟩ = some (.int .i64 p.c.shift) ∧ w'.cell? ⟨rb, 2, none⟩ = some (.int .i64 p.c.window) ∧ w'.cell? ⟨rb, 3, none⟩ = some (.int .i64 p.c.margin) ∧ w'.cell? ⟨rb, 4, none⟩ = some (.int .i64 p.c.hold) ∧ w'.cell? ⟨rb, 5, none⟩ = some (.int .i64 p.c.quota) ∧ w'.cell? ⟨rb, 6, none⟩ = some (.int .i64 p.c.pin) ∧ w'.cell? ⟨rb, 7, none⟩ = some (.int .i64 p.kind) ∧ w'.cell? ⟨rb, 8, none⟩ = some (.int .i64 nw) ∧ w'.cell? ⟨rb, 9, none⟩ = some (.slice (some a) n cap)) ∧ (w'.cell? ⟨ub, 0, none⟩ = some (.int .i64 size) ∧ w'.cell? ⟨ub, 1, none⟩ = some (.int .i64 p.c.shift) ∧ w'.cell? ⟨ub, 2, none⟩ = some (.int .i64 p.c.window) ∧ w'.cell? ⟨ub, 3, none⟩ = some (.int .i64 p.c.margin) ∧ w'.cell? ⟨ub, 4, none⟩ = some (.int .i64 p.c.hold) ∧ w'.cell? ⟨ub, 5, none⟩ = some (.int .i64 p.c.quota) ∧ w'.cell? ⟨ub, 6, none⟩ = some (.int .i64 p.c.pin) ∧ w'.cell? ⟨ub, 7, none⟩ = some (.int .i64 p.kind) ∧ w'.cell? ⟨ub, 8, none⟩ = some (.int .i64 p.now) ∧ w'.cell? ⟨ub, 9, none⟩ = some (.slice (some a) n cap)) ∧ w'.cell? ⟨pb, 9, none⟩ = some (.slice (some a) n cap)) :=
            ⟨fun w' k => ⟨⟨k.cell tq.1, k.cell tq.2.1, k.cell tq.2.2.1, k.cell tq.2.2.2.1, k.cell tq.2.2.2.2.1, k.cell tq.2.2.2.2.2.1, k.cell tq.2.2.2.2.2.2.1, k.cell tq.2.2.2.2.2.2.2.1, k.cell tq.2.2.2.2.2.2.2.2.1, k.cell tq.2.2.2.2.2.2.2.2.2⟩, ⟨k.cell tr.1, k.cell tr.2.1, k.cell tr.2.2.1, k.cell tr.2.2.2.1, k.cell tr.2.2.2.2.1, k.cell tr.2.2.2.2.2.1, k.cell tr.2.2.2.2.2.2.1, k.cell tr.2.2.2.2.2.2.2.1, k.cell tr.2.2.2.2.2.2.2.2.1, k.cell tr.2.2.2.2.2.2.2.2.2⟩, ⟨k.cell tu.1, k.cell tu.2.1, k.cell tu.2.2.1, k.cell tu.2.2.2.1, k.cell tu.2.2.2.2.1, k.cell tu.2.2.2.2.2.1, k.cell tu.2.2.2.2.2.2.1, k.cell tu.2.2.2.2.2.2.2.1, k.cell tu.2.2.2.2.2.2.2.2.1, k.cell tu.2.2.2.2.2.2.2.2.2⟩, k.cell tp⟩⟩
          have cq := hide (fun w k => right_nil hokq.out.nil (Snap_Right _ (.slice ao2 m cap2) w (hiq.keep (w' := w) k)))
          have cr := hide (fun w k => right_nil hokr.out.nil (Snap_Right _ (.slice (some a) n cap) w (hiv.keep (w' := w) k)))
          have cu0 := hide (fun w k => Snap_Right ⟨⟨size, p.c.shift, p.c.window, p.c.margin, p.c.hold, p.c.quota, p.c.pin⟩, p.kind, p.now, p.items⟩ (.slice (some a) n cap) w (hiv.keep (w' := w) k))
          simp only [picCells] at cq cr cu0
          have k7 := hide (Keep.refl W7).drew
          clear tu tr tq tp hiq hiv H9 hW hqb hrb hub hpb d0 d1 d2 d3 d4 d5 d6 d7 d8 d9 e0 e1 e2 e3 e4 e5 e6 e7 e8 e9 x8 y0 y1 c0 c1 c2 c3 c4 c5 c6 c7 c8 c9 H0 H1 H2 H3 H5 H7 H8
          by_cases hsz : (n : Int) ≤ size
          · have hoku := (hokH.out.sized size g1 g2 (by rw [hn.out]; exact hsz)).nil
            have cu := hide (fun w (k : Keep W7 w) => right_nil hoku (cu0.out w k))
            clear hoku cu0
            go_region_held3 (fun w' => (w'.cell? ⟨qb, 0, none⟩ = some (.int .i64 p.c.size) ∧ w'.cell? ⟨qb, 1, none⟩ = some (.int .i64 p.c.shift) ∧ w'.cell? ⟨qb, 2, none⟩ = some (.int .i64 p.c.window) ∧ w'.cell? ⟨qb, 3, none⟩ = some (.int .i64 p.c.margin) ∧ w'.cell? ⟨qb, 4, none⟩ = some (.int .i64 p.c.hold) ∧ w'.cell? ⟨qb, 5, none⟩ = some (.int .i64 p.c.quota) ∧ w'.cell? ⟨qb, 6, none⟩ = some (.int .i64 p.c.pin) ∧ w'.cell? ⟨qb, 7, none⟩ = some (.int .i64 p.kind) ∧ w'.cell? ⟨qb, 8, none⟩ = some (.int .i64 p.now) ∧ w'.cell? ⟨qb, 9, none⟩ = some (.slice ao2 m cap2)) ∧ (w'.cell? ⟨rb, 0, none⟩ = some (.int .i64 p.c.size) ∧ w'.cell? ⟨rb, 1, none⟩ = some (.int .i64 p.c.shift) ∧ w'.cell? ⟨rb, 2, none⟩ = some (.int .i64 p.c.window) ∧ w'.cell? ⟨rb, 3, none⟩ = some (.int .i64 p.c.margin) ∧ w'.cell? ⟨rb, 4, none⟩ = some (.int .i64 p.c.hold) ∧ w'.cell? ⟨rb, 5, none⟩ = some (.int .i64 p.c.quota) ∧ w'.cell? ⟨rb, 6, none⟩ = some (.int .i64 p.c.pin) ∧ w'.cell? ⟨rb, 7, none⟩ = some (.int .i64 p.kind) ∧ w'.cell? ⟨rb, 8, none⟩ = some (.int .i64 nw) ∧ w'.cell? ⟨rb, 9, none⟩ = some (.slice (some a) n cap)) ∧ (w'.cell? ⟨ub, 0, none⟩ = some (.int .i64 size) ∧ w'.cell? ⟨ub, 1, none⟩ = some (.int .i64 p.c.shift) ∧ w'.cell? ⟨ub, 2, none⟩ = some (.int .i64 p.c.window) ∧ w'.cell? ⟨ub, 3, none⟩ = some (.int .i64 p.c.margin) ∧ w'.cell? ⟨ub, 4, none⟩ = some (.int .i64 p.c.hold) ∧ w'.cell? ⟨ub, 5, none⟩ = some (.int .i64 p.c.quota) ∧ w'.cell? ⟨ub, 6, none⟩ = some (.int .i64 p.c.pin) ∧ w'.cell? ⟨ub, 7, none⟩ = some (.int .i64 p.kind) ∧ w'.cell? ⟨ub, 8, none⟩ = some (.int .i64 p.now) ∧ w'.cell? ⟨ub, 9, none⟩ = some (.slice (some a) n cap)) ∧ w'.cell? ⟨pb, 9, none⟩ = some (.slice (some a) n cap)) (exact st.out _ k7.out)
              ((first
                | (go_at_call 17; (with_reducible refine (cq.out _ k7.out).mono ?_); rintro r wn ⟨rfl, h⟩; replace k7 := hide (k7.out.trans h); clear h)
                | (go_at_call 17; (with_reducible refine (cr.out _ k7.out).mono ?_); rintro r wn ⟨rfl, h⟩; replace k7 := hide (k7.out.trans h); clear h)
                | (go_at_call 17; (with_reducible refine (cu.out _ k7.out).mono ?_); rintro r wn ⟨rfl, h⟩; replace k7 := hide (k7.out.trans h); clear h)))
            all_goals
              go_wp2
              go_ret
              exact ⟨rfl, hk7.out.keep k7.out⟩
          · have hbad := OkP.tooSmall (p := p) size (by rw [hn.out]; exact hsz)
            have cu := hide (fun w (k : Keep W7 w) => right_bad hbad (cu0.out w k))
            have hszd : decide ((n : Int) ≤ size) = false := decide_eq_false hsz
            clear hbad cu0
            go_region_held3 (fun w' => (w'.cell? ⟨qb, 0, none⟩ = some (.int .i64 p.c.size) ∧ w'.cell? ⟨qb, 1, none⟩ = some (.int .i64 p.c.shift) ∧ w'.cell? ⟨qb, 2, none⟩ = some (.int .i64 p.c.window) ∧ w'.cell? ⟨qb, 3, none⟩ = some (.int .i64 p.c.margin) ∧ w'.cell? ⟨qb, 4, none⟩ = some (.int .i64 p.c.hold) ∧ w'.cell? ⟨qb, 5, none⟩ = some (.int .i64 p.c.quota) ∧ w'.cell? ⟨qb, 6, none⟩ = some (.int .i64 p.c.pin) ∧ w'.cell? ⟨qb, 7, none⟩ = some (.int .i64 p.kind) ∧ w'.cell? ⟨qb, 8, none⟩ = some (.int .i64 p.now) ∧ w'.cell? ⟨qb, 9, none⟩ = some (.slice ao2 m cap2)) ∧ (w'.cell? ⟨rb, 0, none⟩ = some (.int .i64 p.c.size) ∧ w'.cell? ⟨rb, 1, none⟩ = some (.int .i64 p.c.shift) ∧ w'.cell? ⟨rb, 2, none⟩ = some (.int .i64 p.c.window) ∧ w'.cell? ⟨rb, 3, none⟩ = some (.int .i64 p.c.margin) ∧ w'.cell? ⟨rb, 4, none⟩ = some (.int .i64 p.c.hold) ∧ w'.cell? ⟨rb, 5, none⟩ = some (.int .i64 p.c.quota) ∧ w'.cell? ⟨rb, 6, none⟩ = some (.int .i64 p.c.pin) ∧ w'.cell? ⟨rb, 7, none⟩ = some (.int .i64 p.kind) ∧ w'.cell? ⟨rb, 8, none⟩ = some (.int .i64 nw) ∧ w'.cell? ⟨rb, 9, none⟩ = some (.slice (some a) n cap)) ∧ (w'.cell? ⟨ub, 0, none⟩ = some (.int .i64 size) ∧ w'.cell? ⟨ub, 1, none⟩ = some (.int .i64 p.c.shift) ∧ w'.cell? ⟨ub, 2, none⟩ = some (.int .i64 p.c.window) ∧ w'.cell? ⟨ub, 3, none⟩ = some (.int .i64 p.c.margin) ∧ w'.cell? ⟨ub, 4, none⟩ = some (.int .i64 p.c.hold) ∧ w'.cell? ⟨ub, 5, none⟩ = some (.int .i64 p.c.quota) ∧ w'.cell? ⟨ub, 6, none⟩ = some (.int .i64 p.c.pin) ∧ w'.cell? ⟨ub, 7, none⟩ = some (.int .i64 p.kind) ∧ w'.cell? ⟨ub, 8, none⟩ = some (.int .i64 p.now) ∧ w'.cell? ⟨ub, 9, none⟩ = some (.slice (some a) n cap)) ∧ w'.cell? ⟨pb, 9, none⟩ = some (.slice (some a) n cap)) (exact st.out _ k7.out)
              ((first
                | (go_at_call 17; (with_reducible refine (cq.out _ k7.out).mono ?_); rintro r wn ⟨rfl, h⟩; replace k7 := hide (k7.out.trans h); clear h)
                | (go_at_call 17; (with_reducible refine (cr.out _ k7.out).mono ?_); rintro r wn ⟨rfl, h⟩; replace k7 := hide (k7.out.trans h); clear h)
                | (go_at_call 17; (with_reducible refine (cu.out _ k7.out).mono ?_); rintro r wn ⟨bf, rfl, h⟩; replace k7 := hide (k7.out.trans h); clear h)))
            all_goals
              go_wp2
              go_ret
              exact ⟨rfl, hk7.out.keep k7.out⟩
      · have he : picE p = .fault tSnap ⟨#[]⟩ e := he
        rw [he] at cR
        clear hfew he
        go_enter Tryd.func7, Tryd.ntmps7
        go_wp2_with (first
          | (go_at_call 9; (with_reducible refine (awake16 _ (hE.out.keep H0.out.toKeep)).mono ?_); rintro r w1 ⟨rfl, h⟩; have H1 := hide (H0.out.keep h); obtain ⟨c0, c1, c2, c3, c4, c5, c6, c7, c8, c9⟩ := ten_cells H1.out; clear h)
          | (go_at_call 10; (with_reducible refine (cF.out _ (hv.out.keep H1.out.toKeep) _ hb.out).mono ?_); rintro r w2 ⟨rfl, h⟩; have H2 := hide (H1.out.keep h); obtain ⟨c0, c1, c2, c3, c4, c5, c6, c7, c8, c9⟩ := ten_cells H2.out; clear h)
          | (go_at_call 17; (with_reducible refine (cR.out _ (hv.out.keep H2.out.toKeep)).mono ?_); rintro r w3 ⟨u, rfl, h, hu⟩; have H3 := hide (H2.out.keep h); obtain ⟨bf, ve, rfl, _⟩ := hu; clear h))
        go_ret
        exact ⟨rfl, H3.out.nil⟩
    · have hcase : less < 0 ∨ (0 ≤ less ∧ size < 0) ∨ (0 ≤ less ∧ 0 ≤ size ∧ 16777216 < size) ∨ (0 ≤ less ∧ 0 ≤ size ∧ size ≤ 16777216 ∧ now < 0) := by omega
      clear hg hfew
      rcases hcase with g0 | ⟨g0, g1⟩ | ⟨g0, g1, g2⟩ | ⟨g0, g1, g2, g3⟩
      all_goals
        go_enter Tryd.func7, Tryd.ntmps7
        go_wp2_with (first
          | (go_at_call 9; (with_reducible refine (awake16 _ (hE.out.keep H0.out.toKeep)).mono ?_); rintro r w1 ⟨rfl, h⟩; have H1 := hide (H0.out.keep h); obtain ⟨c0, c1, c2, c3, c4, c5, c6, c7, c8, c9⟩ := ten_cells H1.out; clear h)
          | (go_at_call 10; (with_reducible refine (cF.out _ (hv.out.keep H1.out.toKeep) _ hb.out).mono ?_); rintro r w2 ⟨rfl, h⟩; have H2 := hide (H1.out.keep h); clear h))
        go_ret
        exact ⟨rfl, H2.out.nil⟩
  · have hb := hide (decide_eq_false hfew)
    clear hfew
    go_enter Tryd.func7, Tryd.ntmps7
    go_wp2_with (first
      | (go_at_call 9; (with_reducible refine (awake16 _ (hE.out.keep H0.out.toKeep)).mono ?_); rintro r w1 ⟨rfl, h⟩; have H1 := hide (H0.out.keep h); obtain ⟨c0, c1, c2, c3, c4, c5, c6, c7, c8, c9⟩ := ten_cells H1.out; clear h)
      | (go_at_call 10; (with_reducible refine (cF.out _ (hv.out.keep H1.out.toKeep) _ hb.out).mono ?_); rintro r w2 ⟨rfl, h⟩; have H2 := hide (H1.out.keep h); clear h))
    go_ret
    exact ⟨rfl, H2.out.nil⟩
theorem SnapFewer_at : LawAt 7 Tryd.f7 := by
  intro W args hE hA
  rw [Tryd.params7] at hA
  obtain ⟨v0, vs0, e0, a0, hA⟩ := args_cons hA
  obtain ⟨v1, vs1, rfl, a1, hA⟩ := args_cons hA
  obtain ⟨v2, vs2, rfl, a2, hA⟩ := args_cons hA
  obtain ⟨v3, vs3, rfl, a3, hA⟩ := args_cons hA
  obtain rfl := args_nil hA
  obtain ⟨p, u, rfl, hv, hf⟩ := pic_of_arg a0
  have hz := pic_nil a0
  obtain ⟨x1, rfl, _⟩ := arg_int Tryd.underlying3 a1
  obtain ⟨x2, rfl, _⟩ := arg_int Tryd.underlying3 a2
  obtain ⟨x3, rfl, _⟩ := arg_int Tryd.underlying3 a3
  obtain rfl : args = #[.agg (picCells p u), .int .i64 x1, .int .i64 x2, .int .i64 x3] := by cases args; simpa using e0
  exact walk_SnapFewer p u x1 x2 x3 W hE hv hz hf
set_option maxRecDepth 100000 in
theorem SnapFewer_lifted (os : Os) (started : os.Started) (H : Type) (enc : TypeId × Value → H) (F : Stop.Interp) :
    ReturnsInHanded {} Tryd.checked os 7 .any ((OpenSpec.ofChange Rows.snapFewerSpec).preRow enc Tryd.prog Tryd.f7 Rows.snapFewerRow.domain false Rows.snapFewerRow.laid) (((OpenSpec.ofChange Rows.snapFewerSpec).at F).post enc Tryd.prog Tryd.f7 false true false false) := by
  have hx : DataW.whole enc Tryd.prog ((laidWorld os).forCall (fun _ _ => 0) ⟨#[], #[.agg (picCells noPic (.slice none 0 0)), .int .i64 0, .int .i64 0, .int .i64 0], []⟩).memory Tryd.f7.params.toList Rows.snapFewerSpec.vars false (#[.agg (picCells noPic (.slice none 0 0)), .int .i64 0, .int .i64 0, .int .i64 0] : Array Value).toList 16 = some ([.agg [.agg [.lit (.int .i64 0), .lit (.int .i64 0), .lit (.int .i64 0), .lit (.int .i64 0), .lit (.int .i64 0), .lit (.int .i64 0), .lit (.int .i64 0)], .lit (.int .i64 0), .lit (.int .i64 0), .nil], .lit (.int .i64 0), .lit (.int .i64 0), .lit (.int .i64 0)], [], []) := by kernel_rfl
  refine returnsInHanded_of_row (C := Tryd.checked) (s := OpenSpec.ofChange Rows.snapFewerSpec) own started (by kernel_rfl) Tryd.func7
    (witness_row_at (enc := enc) (C := Tryd.checked) false (laidWorld os) #[.agg (picCells noPic (.slice none 0 0)), .int .i64 0, .int .i64 0, .int .i64 0] rfl (by kernel_rfl) (by kernel_rfl) (by kernel_rfl)
      (OpenSpec.preRow_of_cond 16 hx (by kernel_rfl) (fun k hk => by cases hk) (by kernel_rfl) (laidWorld_met os _))) ?_
  intro W base args ds gs before hval hW _ _ _ hL _ _
  exact law_post rfl rfl (by intro H ds h; have h' : ds.length = 4 := h; match ds, h' with | [_, _, _, _], _ => rfl) (by decide +kernel) SnapFewer_at (env_of_laid hL) hval hW
theorem SnapFewer_said : Rows.SnapFewerSaid :=
  OpenClaim.holds_of_cond 7 Tryd.f7 rfl rfl rfl rfl rfl rfl rfl ⟨rfl, rfl, rfl, rfl, rfl⟩ rfl rfl rfl rfl rfl (by kernel_rfl) Tryd.func7 (by kernel_rfl)
    (of_decide_eq_true (by kernel_rfl)) (by unfold Func.isWrapper; first | (rw [if_pos (by decide +kernel)]; kernel_rfl) | (rw [if_neg (by decide +kernel)]; exact ⟨rfl, rfl⟩))
    (fun os started H enc _ F => by rw [OpenClaim.pre_eq_preRow]; exact SnapFewer_lifted os started H enc F)
theorem SnapFewer_plain (f : FuncId) (fn : Func) (hf : Tryd.pinned.checked.prog.funcNamed "cachewise/cachewiselaw16.SnapFewer" = some f) (hfn : Tryd.pinned.checked.prog.funcs[f]? = some fn) :
    true = Tryd.pinned.checked.prog.looks [] ∧ ∀ (j : Nat) t, fn.params[j]? = some t → Tryd.pinned.checked.prog.wantsStandIn t = false := by
  obtain rfl : f = 7 := Option.some.inj ((show Tryd.prog.funcNamed "cachewise/cachewiselaw16.SnapFewer" = some 7 by kernel_rfl).symm.trans hf) |>.symm
  obtain rfl : fn = Tryd.f7 := (Option.some.inj (Tryd.func7.symm.trans hfn)).symm
  refine ⟨by kernel_rfl, fun j t ht => ?_⟩
  have hall : ∀ t, t ∈ Tryd.f7.params.toList → Tryd.prog.wantsStandIn t = false := by decide +kernel
  exact hall t (by simpa using Array.mem_of_getElem? ht)
theorem SnapFewer_card : Rows.SnapFewerCardSaid :=
  Claim7.holds_tied_plain_at .later [] _ _ _ _ SnapFewer_said (fun _ h => by cases h) (by kernel_rfl) (fun _ h => by cases h) snapFewer_row_tie rfl ⟨rfl, rfl⟩ (by kernel_rfl) rfl SnapFewer_plain (by kernel_rfl)
end Go.Proofs.YtggeppmiifkikaaDoor
