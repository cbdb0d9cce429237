/- Any picture has just the document's bytes, or its fault; any bytes are just its picture, or its fault. -/
import Derived.Test.YtggeppmiifkikaaDoorTellParse
import Derived.Test.YtggeppmiifkikaaDoorSnapSame
import Derived.Deep.RegionWith
namespace Go.Proofs.YtggeppmiifkikaaDoor
open Go Go.RowKit Go.Shelf

theorem Of_lit (p : Pic) (v : Value) (w : World) (hv : ItemsAt w v p.items) (hl : p.items.length ≤ 100000) :
    Calls Tryd.prog 13 #[.agg #[.int .i64 p.c.size, .int .i64 p.c.shift, .int .i64 p.c.window, .int .i64 p.c.margin, .int .i64 p.c.hold, .int .i64 p.c.quota, .int .i64 p.c.pin, .int .i64 p.kind, .int .i64 p.now, v]] w fun r w' => ∃ u, r = .returned (.agg (picCells p u)) ∧ ItemsAt w' u p.items ∧ Keep w w' := by
  refine (Of_val p v w hv hl).mono ?_
  rintro r w' ⟨u, rfl, h⟩
  exact ⟨u, rfl, h.itemsRef rfl, h.toKeep⟩
/-- What snap's Parse and the document's tell of bytes. -/
structure Both (s : ByteArray) (x : Pic) (e : EV) (c : Int) : Prop where
  ev : EvOf tParse e
  code : codeE e = c
  len : x.items.length ≤ 100000
  parse : ∀ w, Calls Tryd.prog 14 #[.string s] w fun r w' => ∃ v u, r = .returned (.tuple #[.agg #[.int .i64 x.c.size, .int .i64 x.c.shift, .int .i64 x.c.window, .int .i64 x.c.margin, .int .i64 x.c.hold, .int .i64 x.c.quota, .int .i64 x.c.pin, .int .i64 x.kind, .int .i64 x.now, v], u]) ∧ ErrAt w' e u ∧ ItemsAt w' v x.items ∧ Keep w w'
  ref : ∀ w, Calls Tryd.prog 15 #[.string s] w fun r w' => ∃ v, r = .returned (.tuple #[.agg #[.int .i64 x.c.size, .int .i64 x.c.shift, .int .i64 x.c.window, .int .i64 x.c.margin, .int .i64 x.c.hold, .int .i64 x.c.quota, .int .i64 x.c.pin, .int .i64 x.kind, .int .i64 x.now, v], .int .i64 c]) ∧ ItemsAt w' v x.items ∧ Keep w w'
theorem items_flat : ∀ l : List It, l.length ≤ (l.flatMap itB).length
  | [] => Nat.le_refl _
  | x :: l => by
    rw [List.flatMap_cons, List.length_append, itB_length, List.length_cons]
    have := items_flat l
    omega
theorem itemsAt_nil (w : World) : ItemsAt w (.slice none 0 0) [] := .inl ⟨⟨_, _, rfl⟩, rfl⟩
theorem both (s : ByteArray) (hs : s.size ≤ 5000) : ∃ x e c, Both s x e c := by
  cases hm : parseM s.data.toList with
  | err e =>
    refine ⟨noPic, e, _, EvOf.parse hm, rfl, Nat.zero_le _, fun w => (Snap_Parse s (by omega) w).mono ?_, fun w => (Ref_Parse s (by omega) w).mono ?_⟩
    · rintro r w' ⟨hk, ⟨e', u, hm', rfl, he⟩ | ⟨q, v, hm', _⟩⟩
      · rw [hm] at hm'
        cases hm'
        exact ⟨_, u, rfl, he, itemsAt_nil w', hk⟩
      · rw [hm] at hm'; cases hm'
    · rintro r w' (⟨e', hm', rfl, hk⟩ | ⟨q, v, hm', _⟩)
      · rw [hm] at hm'
        cases hm'
        exact ⟨_, rfl, itemsAt_nil w', hk⟩
      · rw [hm] at hm'; cases hm'
  | ok x =>
    obtain ⟨hpr, hfine⟩ := print_parse hm (by rw [ba_len]; omega)
    refine ⟨x, .nil, 0, .inl rfl, rfl, ?_, fun w => (Snap_Parse s (by omega) w).mono ?_, fun w => (Ref_Parse s (by omega) w).mono ?_⟩
    · have h1 := hfine.len
      have h2 := items_flat x.items
      unfold bodyB at h1
      rw [List.length_append] at h1
      omega
    · rintro r w' ⟨hk, ⟨e, u, hm', _⟩ | ⟨q, v, hm', rfl, hi⟩⟩
      · rw [hm] at hm'; cases hm'
      · rw [hm] at hm'
        cases hm'
        exact ⟨v, _, rfl, rfl, hi.itemsOf, hk⟩
    · rintro r w' (⟨e', hm', _⟩ | ⟨q, v, hm', rfl, hi⟩)
      · rw [hm] at hm'; cases hm'
      · rw [hm] at hm'
        cases hm'
        exact ⟨v, rfl, hi.itemsRef rfl, hi.toKeep⟩
set_option maxRecDepth 100000 in
set_option maxHeartbeats 16000000 in
theorem walk_Tells (p : Pic) (v : Value) (s : ByteArray) (W : World) (hE : Env W) (hv : ItemsAt W v p.items) (hf : PicFits p) (hfew : FewL p.items) (hs : s.size ≤ 5000) (x : Pic) (e : EV) (c2 : Int) (hB : Both s x e c2) :
    Calls Tryd.prog 3 #[.agg (picCells p v), .string s] W fun r w' => r = .returned (.bool true) ∧ Holds W w' [] := by
  have hE := hide hE
  obtain ⟨n, hn⟩ : ∃ n, s.size = n := ⟨_, rfl⟩
  have hs' : (n : Int) ≤ 5000 := by omega
  have H0 := (Holds.start W).alloc (o := .cells (picCells p v) 26)
  simp only [picCells] at H0
  obtain ⟨pb, hpb⟩ : ∃ pb, W.heap.size = pb := ⟨_, rfl⟩
  rw [hpb] at H0
  have H0 := hide H0
  have cF := hide (fun w hv' => Few_val p v w hv' hf.len true (decide_eq_true hfew))
  have hp := hfew.few hf
  have cP := hide (fun w hv' => Snap_Print p v w hv' hp)
  have cRt := hide (fun w hv' => Snap_Right p v w hv')
  have cFt := hide (fun w => Snap_Fits p.c w)
  have cRF := hide (fun u w => Ref_Fits p u w)
  have cRP := hide (fun u w hv' => Ref_Print p u w hv' hp)
  have cOp := hide (fun w v hv' => Of_lit p v w hv' (by have := hfew.1; omega))
  have cOx := hide (fun w v hv' => Of_lit x v w hv' hB.len)
  have cS := hide (fun u v w hu hv => (show Calls Tryd.prog 20 #[.agg (picCells x u), .agg #[.int .i64 x.c.size, .int .i64 x.c.shift, .int .i64 x.c.window, .int .i64 x.c.margin, .int .i64 x.c.hold, .int .i64 x.c.quota, .int .i64 x.c.pin, .int .i64 x.kind, .int .i64 x.now, v]] w fun r w' => r = .returned (.bool true) ∧ Keep w w' from Same_any x x u v w hu hv hB.len true ⟨fun _ => rfl, fun _ => rfl⟩))
  obtain ⟨sa, hsa⟩ : ∃ sa, prS p = sa := ⟨_, rfl⟩
  obtain ⟨c1, hc1⟩ : ∃ c, codeP p = c := ⟨_, rfl⟩
  obtain ⟨c3, hc3⟩ : ∃ c, cfgC p.c = c := ⟨_, rfl⟩
  rw [hsa] at cP cRP
  rw [hc1] at cRP
  rw [hc3] at cRF
  have cW1 := hide (fun v w hg he => Wraps_code tSnap (picE p) v c1 w hg hc1 he (EvOf.pic p))
  have cW2 := hide (fun v w hg he => Wraps_code tConfig (cfgE p.c) v c3 w hg (by rw [codeE_cfg]; exact hc3) he (EvOf.cfg p.c))
  have cW3 := hide (fun v w hg he => Wraps_code tParse e v c2 w hg hB.code he hB.ev)
  have cPs := hide hB.parse
  have cRs := hide hB.ref
  have hv := hide hv
  simp only [picCells, cfgCells, tSnap, tConfig, tParse] at cF cP cRt cFt cW1 cW2 cW3
  unfold picCells
  clear hfew hf hs hp hsa hc1 hc3 hB
  go_enter Tryd.func3, Tryd.ntmps3
  go_wp2_with (first
    | (go_at_call 9; (with_reducible refine (awake16 _ (hE.out.keep H0.out.toKeep)).mono ?_); rintro r w1 ⟨rfl, h⟩; have H1 := hide (H0.out.keep h); obtain ⟨a0, a1, a2, a3, a4, a5, a6, a7, a8, a9⟩ := ten_cells H1.out; clear h)
    | (go_at_call 10; (with_reducible refine (cF.out _ (hv.out.keep H1.out.toKeep)).mono ?_); rintro r w2 ⟨rfl, h⟩; have H2 := hide (H1.out.keep h); obtain ⟨b0, b1, b2, b3, b4, b5, b6, b7, b8, b9⟩ := ten_cells H2.out; clear h a0 a1 a2 a3 a4 a5 a6 a7 a8 a9)
    | (go_at_call 11; (with_reducible refine (cP.out _ (hv.out.keep H2.out.toKeep)).mono ?_); rintro r w3 ⟨ve, rfl, h, he⟩; have H3 := hide (H2.out.keep h); have he1 := hide he; obtain ⟨a0, a1, a2, a3, a4, a5, a6, a7, a8, a9⟩ := ten_cells H3.out; clear h he b0 b1 b2 b3 b4 b5 b6 b7 b8 b9)
    | (go_at_call 13; (with_reducible refine (cOp.out _ _ (hv.out.keep H3.out.toKeep)).mono ?_); rintro r w4 ⟨u1, rfl, hi, h⟩; have H4 := hide (H3.out.keep h); have I1 := hide hi; replace he1 := hide (he1.out.keep h); clear h hi a0 a1 a2 a3 a4 a5 a6 a7 a8 a9)
    | (go_at_call 12; (with_reducible refine (cRP.out _ _ I1.out).mono ?_); rintro r w5 ⟨rfl, h⟩; have H5 := hide (H4.out.keep h); replace he1 := hide (he1.out.keep h); clear h)
    | (go_at_call 14; (with_reducible refine (cPs.out _).mono ?_); rintro r w6 ⟨vx, vf, rfl, hf, hi, h⟩; obtain ⟨xo, xc, rfl⟩ := hi.shape; have H6 := hide ((H5.out.keep h).alloc (o := .cells #[.int .i64 x.c.size, .int .i64 x.c.shift, .int .i64 x.c.window, .int .i64 x.c.margin, .int .i64 x.c.hold, .int .i64 x.c.quota, .int .i64 x.c.pin, .int .i64 x.kind, .int .i64 x.now, .slice xo x.items.length xc] 26)); have kx := (Keep.refl w6).alloc (o := .cells #[.int .i64 x.c.size, .int .i64 x.c.shift, .int .i64 x.c.window, .int .i64 x.c.margin, .int .i64 x.c.hold, .int .i64 x.c.quota, .int .i64 x.c.pin, .int .i64 x.kind, .int .i64 x.now, .slice xo x.items.length xc] 26); replace he1 := hide (he1.out.keep (h.trans kx)); have hf1 := hide (hf.keep kx); have I2 := hide (hi.keep kx); clear h hf hi kx)
    | (go_at_call 15; (with_reducible refine (cRs.out _).mono ?_); rintro r w7 ⟨vy, rfl, hi, h⟩; obtain ⟨yo, yc, rfl⟩ := hi.shape; have H7 := hide ((H6.out.keep h).alloc (o := .cells #[.int .i64 x.c.size, .int .i64 x.c.shift, .int .i64 x.c.window, .int .i64 x.c.margin, .int .i64 x.c.hold, .int .i64 x.c.quota, .int .i64 x.c.pin, .int .i64 x.kind, .int .i64 x.now, .slice yo x.items.length yc] 37)); have kx := (Keep.refl w7).alloc (o := .cells #[.int .i64 x.c.size, .int .i64 x.c.shift, .int .i64 x.c.window, .int .i64 x.c.margin, .int .i64 x.c.hold, .int .i64 x.c.quota, .int .i64 x.c.pin, .int .i64 x.kind, .int .i64 x.now, .slice yo x.items.length yc] 37); replace he1 := hide (he1.out.keep (h.trans kx)); replace hf1 := hide (hf1.out.keep (h.trans kx)); replace I2 := hide (I2.out.keep (h.trans kx)); have I3 := hide (hi.keep kx); clear h hi kx))
  obtain ⟨xb, hxb⟩ : ∃ xb, w6.heap.size = xb := ⟨_, rfl⟩
  obtain ⟨yb, hyb⟩ : ∃ yb, w7.heap.size = yb := ⟨_, rfl⟩
  have T := H7.out
  simp only [hxb, hyb] at T ⊢
  generalize w7.alloc (.cells #[.int .i64 x.c.size, .int .i64 x.c.shift, .int .i64 x.c.window, .int .i64 x.c.margin, .int .i64 x.c.hold, .int .i64 x.c.quota, .int .i64 x.c.pin, .int .i64 x.kind, .int .i64 x.now, .slice yo x.items.length yc] 37) = W7 at T he1 hf1 I2 I3 ⊢
  have ty := ten_cells T
  have tx := ten_cells T.p1
  have tp := ten_cells T.p2
  have hvp := hide (hv.out.keep T.toKeep)
  have hg7 := hide (hE.out.keep T.toKeep)
  have hk7 := hide T.nil
  have st : Hide (∀ w', Keep W7 w' → (w'.cell? ⟨xb, 0, none⟩ = some (.int .i64 x.c.size) ∧ w'.cell? ⟨xb, 1, none⟩ = some (.int .i64 x.c.shift) ∧ w'.cell? ⟨xb, 2, none⟩ = some (.int .i64 x.c.window) ∧ w'.cell? ⟨xb, 3, none⟩ = some (.int .i64 x.c.margin) ∧ w'.cell? ⟨xb, 4, none⟩ = some (.int .i64 x.c.hold) ∧ w'.cell? ⟨xb, 5, none⟩ = some (.int .i64 x.c.quota) ∧ w'.cell? ⟨xb, 6, none⟩ = some (.int .i64 x.c.pin) ∧ w'.cell? ⟨xb, 7, none⟩ = some (.int .i64 x.kind) ∧ w'.cell? ⟨xb, 8, none⟩ = some (.int .i64 x.now) ∧ w'.cell? ⟨xb, 9, none⟩ = some (.slice xo x.items.length xc)) ∧ (w'.cell? ⟨yb, 0, none⟩ = some (.int .i64 x.c.size) ∧ w'.cell? ⟨yb, 1, none⟩ = some (.int .i64 x.c.shift) ∧ w'.cell? ⟨yb, 2, none⟩ = some (.int .i64 x.c.window) ∧ w'.cell? ⟨yb, 3, none⟩ = some (.int .i64 x.c.margin) ∧ w'.cell? ⟨yb, 4, none⟩ = some (.int .i64 x.c.hold) ∧ w'.cell? ⟨yb, 5, none⟩ = some (.int .i64 x.c.quota) ∧ w'.cell? ⟨yb, 6, none⟩ = some (.int .i64 x.c.pin) ∧ w'.cell? ⟨yb, 7, none⟩ = some (.int .i64 x.kind) ∧ w'.cell? ⟨yb, 8, none⟩ = some (.int .i64 x.now) ∧ w'.cell? ⟨yb, 9, none⟩ = some (.slice yo x.items.length yc)) ∧ (w'.cell? ⟨pb, 0, none⟩ = some (.int .i64 p.c.size) ∧ w'.cell? ⟨pb, 1, none⟩ = some (.int .i64 p.c.shift) ∧ w'.cell? ⟨pb, 2, none⟩ = some (.int .i64 p.c.window) ∧ w'.cell? ⟨pb, 3, none⟩ = some (.int .i64 p.c.margin) ∧ w'.cell? ⟨pb, 4, none⟩ = some (.int .i64 p.c.hold) ∧ w'.cell? ⟨pb, 5, none⟩ = some (.int .i64 p.c.quota) ∧ w'.cell? ⟨pb, 6, none⟩ = some (.int .i64 p.c.pin) ∧ w'.cell? ⟨pb, 7, none⟩ = some (.int .i64 p.kind) ∧ w'.cell? ⟨pb, 8, none⟩ = some (.int .i64 p.now) ∧ w'.cell? ⟨pb, 9, none⟩ = some (v))) := ⟨fun w' k => ⟨⟨k.cell tx.1, k.cell tx.2.1, k.cell tx.2.2.1, k.cell tx.2.2.2.1, k.cell tx.2.2.2.2.1, k.cell tx.2.2.2.2.2.1, k.cell tx.2.2.2.2.2.2.1, k.cell tx.2.2.2.2.2.2.2.1, k.cell tx.2.2.2.2.2.2.2.2.1, k.cell tx.2.2.2.2.2.2.2.2.2⟩, ⟨k.cell ty.1, k.cell ty.2.1, k.cell ty.2.2.1, k.cell ty.2.2.2.1, k.cell ty.2.2.2.2.1, k.cell ty.2.2.2.2.2.1, k.cell ty.2.2.2.2.2.2.1, k.cell ty.2.2.2.2.2.2.2.1, k.cell ty.2.2.2.2.2.2.2.2.1, k.cell ty.2.2.2.2.2.2.2.2.2⟩, ⟨k.cell tp.1, k.cell tp.2.1, k.cell tp.2.2.1, k.cell tp.2.2.2.1, k.cell tp.2.2.2.2.1, k.cell tp.2.2.2.2.2.1, k.cell tp.2.2.2.2.2.2.1, k.cell tp.2.2.2.2.2.2.2.1, k.cell tp.2.2.2.2.2.2.2.2.1, k.cell tp.2.2.2.2.2.2.2.2.2⟩⟩⟩
  have k7 := hide (Keep.refl W7).drew
  clear tx ty tp T H0 H1 H2 H3 H4 H5 H6 H7 I1 hxb hyb
  go_region_held3 (fun w' => (w'.cell? ⟨xb, 0, none⟩ = some (.int .i64 x.c.size) ∧ w'.cell? ⟨xb, 1, none⟩ = some (.int .i64 x.c.shift) ∧ w'.cell? ⟨xb, 2, none⟩ = some (.int .i64 x.c.window) ∧ w'.cell? ⟨xb, 3, none⟩ = some (.int .i64 x.c.margin) ∧ w'.cell? ⟨xb, 4, none⟩ = some (.int .i64 x.c.hold) ∧ w'.cell? ⟨xb, 5, none⟩ = some (.int .i64 x.c.quota) ∧ w'.cell? ⟨xb, 6, none⟩ = some (.int .i64 x.c.pin) ∧ w'.cell? ⟨xb, 7, none⟩ = some (.int .i64 x.kind) ∧ w'.cell? ⟨xb, 8, none⟩ = some (.int .i64 x.now) ∧ w'.cell? ⟨xb, 9, none⟩ = some (.slice xo x.items.length xc)) ∧ (w'.cell? ⟨yb, 0, none⟩ = some (.int .i64 x.c.size) ∧ w'.cell? ⟨yb, 1, none⟩ = some (.int .i64 x.c.shift) ∧ w'.cell? ⟨yb, 2, none⟩ = some (.int .i64 x.c.window) ∧ w'.cell? ⟨yb, 3, none⟩ = some (.int .i64 x.c.margin) ∧ w'.cell? ⟨yb, 4, none⟩ = some (.int .i64 x.c.hold) ∧ w'.cell? ⟨yb, 5, none⟩ = some (.int .i64 x.c.quota) ∧ w'.cell? ⟨yb, 6, none⟩ = some (.int .i64 x.c.pin) ∧ w'.cell? ⟨yb, 7, none⟩ = some (.int .i64 x.kind) ∧ w'.cell? ⟨yb, 8, none⟩ = some (.int .i64 x.now) ∧ w'.cell? ⟨yb, 9, none⟩ = some (.slice yo x.items.length yc)) ∧ (w'.cell? ⟨pb, 0, none⟩ = some (.int .i64 p.c.size) ∧ w'.cell? ⟨pb, 1, none⟩ = some (.int .i64 p.c.shift) ∧ w'.cell? ⟨pb, 2, none⟩ = some (.int .i64 p.c.window) ∧ w'.cell? ⟨pb, 3, none⟩ = some (.int .i64 p.c.margin) ∧ w'.cell? ⟨pb, 4, none⟩ = some (.int .i64 p.c.hold) ∧ w'.cell? ⟨pb, 5, none⟩ = some (.int .i64 p.c.quota) ∧ w'.cell? ⟨pb, 6, none⟩ = some (.int .i64 p.c.pin) ∧ w'.cell? ⟨pb, 7, none⟩ = some (.int .i64 p.kind) ∧ w'.cell? ⟨pb, 8, none⟩ = some (.int .i64 p.now) ∧ w'.cell? ⟨pb, 9, none⟩ = some (v))) (exact st.out _ k7.out) (first
    | (go_at_call 16; (with_reducible refine (cW1.out ve _ (hg7.out.keep k7.out) (he1.out.keep k7.out)).mono ?_); rintro r wn ⟨rfl, h⟩; replace k7 := hide (k7.out.trans h); clear h)
    | (go_at_call 17; (with_reducible refine (cRt.out _ (hvp.out.keep k7.out)).mono ?_); rintro r wn ⟨vr, rfl, h, hr⟩; replace k7 := hide (k7.out.trans h); have hr1 := hide hr; clear h hr)
    | (go_at_call 16; (with_reducible refine (cW1.out vr _ (hg7.out.keep k7.out) hr1.out).mono ?_); rintro r wn ⟨rfl, h⟩; replace k7 := hide (k7.out.trans h); clear h)
    | (go_at_call 18; (with_reducible refine (cFt.out _).mono ?_); rintro r wn ⟨vt, rfl, h, ht⟩; replace k7 := hide (k7.out.trans h); have ht1 := hide ht; clear h ht)
    | (go_at_call 13; (with_reducible refine (cOp.out _ _ (hvp.out.keep k7.out)).mono ?_); rintro r wn ⟨u2, rfl, hi, h⟩; replace k7 := hide (k7.out.trans h); (try replace ht1 := hide (ht1.out.keep h)); clear h hi)
    | (go_at_call 19; (with_reducible refine (cRF.out _ _).mono ?_); rintro r wn ⟨rfl, h⟩; replace k7 := hide (k7.out.trans h); (try replace ht1 := hide (ht1.out.keep h)); clear h)
    | (go_at_call 16; (with_reducible refine (cW2.out vt _ (hg7.out.keep k7.out) ht1.out).mono ?_); rintro r wn ⟨rfl, h⟩; replace k7 := hide (k7.out.trans h); clear h)
    | (go_at_call 13; (with_reducible refine (cOx.out _ _ (I2.out.keep k7.out)).mono ?_); rintro r wn ⟨u3, rfl, hi, h⟩; replace k7 := hide (k7.out.trans h); have I4 := hide hi; clear h hi)
    | (go_at_call 20; (with_reducible refine (cS.out _ _ _ I4.out (I3.out.keep k7.out)).mono ?_); rintro r wn ⟨rfl, h⟩; replace k7 := hide (k7.out.trans h); clear h)
    | (go_at_call 16; (with_reducible refine (cW3.out vf _ (hg7.out.keep k7.out) (hf1.out.keep k7.out)).mono ?_); rintro r wn ⟨rfl, h⟩; replace k7 := hide (k7.out.trans h); clear h))
  all_goals
    go_wp2
    go_ret
    exact ⟨rfl, hk7.out.keep k7.out⟩
set_option maxRecDepth 100000 in
set_option maxHeartbeats 16000000 in
theorem walk_Tells_few (p : Pic) (v : Value) (s : ByteArray) (W : World) (hE : Env W) (hv : ItemsAt W v p.items) (hf : PicFits p) (hs : s.size ≤ maxLen) (hpq : ¬ (FewL p.items ∧ s.size ≤ 5000)) :
    Calls Tryd.prog 3 #[.agg (picCells p v), .string s] W fun r w' => r = .returned (.bool true) ∧ Holds W w' [] := by
  have hE := hide hE
  obtain ⟨n, hn⟩ : ∃ n, s.size = n := ⟨_, rfl⟩
  simp only [maxLen] at hs
  rw [hn] at hpq hs
  have H0 := (Holds.start W).alloc (o := .cells (picCells p v) 26)
  simp only [picCells] at H0
  obtain ⟨pb, hpb⟩ : ∃ pb, W.heap.size = pb := ⟨_, rfl⟩
  rw [hpb] at H0
  have H0 := hide H0
  have hcs : (¬ FewL p.items) ∨ (FewL p.items ∧ (5000 : Int) < (n : Int)) := by
    by_cases h1 : FewL p.items
    · refine .inr ⟨h1, ?_⟩
      have : ¬ n ≤ 5000 := fun h => hpq ⟨h1, h⟩
      omega
    · exact .inl h1
  have cF0 := fun b (h : decide (FewL p.items) = b) w hv' => Few_val p v w hv' hf.len b h
  simp only [picCells] at cF0
  have cF0 := hide cF0
  have hv := hide hv
  unfold picCells
  clear hpq hf
  rcases hcs with h | ⟨h, h2⟩
  · have cF := hide (cF0.out false (decide_eq_false h))
    clear h
    go_enter Tryd.func3, Tryd.ntmps3
    go_wp2_with (first | (go_at_call 9; (with_reducible refine (awake16 _ (hE.out.keep H0.out.toKeep)).mono ?_); rintro r w1 ⟨rfl, h⟩; have H1 := hide (H0.out.keep h); obtain ⟨a0, a1, a2, a3, a4, a5, a6, a7, a8, a9⟩ := ten_cells H1.out; clear h) | (go_at_call 10; (with_reducible refine (cF.out _ (hv.out.keep H1.out.toKeep)).mono ?_); rintro r w2 ⟨rfl, h⟩; have H2 := hide (H1.out.keep h); obtain ⟨b0, b1, b2, b3, b4, b5, b6, b7, b8, b9⟩ := ten_cells H2.out; clear h))
    go_ret
    exact ⟨rfl, H2.out.nil⟩
  · have cF := hide (cF0.out true (decide_eq_true h))
    clear h
    go_enter Tryd.func3, Tryd.ntmps3
    go_wp2_with (first | (go_at_call 9; (with_reducible refine (awake16 _ (hE.out.keep H0.out.toKeep)).mono ?_); rintro r w1 ⟨rfl, h⟩; have H1 := hide (H0.out.keep h); obtain ⟨a0, a1, a2, a3, a4, a5, a6, a7, a8, a9⟩ := ten_cells H1.out; clear h) | (go_at_call 10; (with_reducible refine (cF.out _ (hv.out.keep H1.out.toKeep)).mono ?_); rintro r w2 ⟨rfl, h⟩; have H2 := hide (H1.out.keep h); obtain ⟨b0, b1, b2, b3, b4, b5, b6, b7, b8, b9⟩ := ten_cells H2.out; clear h))
    go_ret
    exact ⟨rfl, H2.out.nil⟩
theorem SnapTells_at : LawAt 3 Tryd.f3 := by
  intro W args hE hA
  rw [Tryd.params3] at hA
  obtain ⟨v0, vs0, e0, a0, hA⟩ := args_cons hA
  obtain ⟨v2, vs2, rfl, a2, hA⟩ := args_cons hA
  obtain rfl := args_nil hA
  obtain ⟨p, u, rfl, hv, hf⟩ := pic_of_arg a0
  obtain ⟨s, rfl, hs⟩ := arg_string Tryd.underlying9 a2
  obtain rfl : args = #[.agg (picCells p u), .string s] := by cases args; simpa using e0
  by_cases hpq : FewL p.items ∧ s.size ≤ 5000
  · obtain ⟨x, e, c, hB⟩ := both s hpq.2
    exact walk_Tells p u s W hE hv hf hpq.1 hpq.2 x e c hB
  · exact walk_Tells_few p u s W hE hv hf hs hpq
set_option maxRecDepth 100000 in
theorem SnapTells_lifted (os : Os) (started : os.Started) (H : Type) (enc : TypeId × Value → H) (F : Stop.Interp) :
    ReturnsInHanded {} Tryd.checked os 3 .any ((OpenSpec.ofChange Rows.snapTellsSpec).preRow enc Tryd.prog Tryd.f3 Rows.snapTellsRow.domain false Rows.snapTellsRow.laid) (((OpenSpec.ofChange Rows.snapTellsSpec).at F).post enc Tryd.prog Tryd.f3 false true false false) := by
  have hx : DataW.whole enc Tryd.prog ((laidWorld os).forCall (fun _ _ => 0) ⟨#[], #[.agg (picCells noPic (.slice none 0 0)), .string ⟨#[]⟩], []⟩).memory Tryd.f3.params.toList Rows.snapTellsSpec.vars false (#[.agg (picCells noPic (.slice none 0 0)), .string ⟨#[]⟩] : Array Value).toList 16 = some ([.agg [.agg [.lit (.int .i64 0), .lit (.int .i64 0), .lit (.int .i64 0), .lit (.int .i64 0), .lit (.int .i64 0), .lit (.int .i64 0), .lit (.int .i64 0)], .lit (.int .i64 0), .lit (.int .i64 0), .nil], .lit (.string [])], [], []) := by kernel_rfl
  refine returnsInHanded_of_row (C := Tryd.checked) (s := OpenSpec.ofChange Rows.snapTellsSpec) own started (by kernel_rfl) Tryd.func3
    (witness_row_at (enc := enc) (C := Tryd.checked) false (laidWorld os) #[.agg (picCells noPic (.slice none 0 0)), .string ⟨#[]⟩] rfl (by kernel_rfl) (by kernel_rfl) (by kernel_rfl)
      (OpenSpec.preRow_of_cond 16 hx (by kernel_rfl) (fun k hk => by cases hk) (by kernel_rfl) (laidWorld_met os _))) ?_
  intro W base args ds gs before hval hW _ _ _ hL _ _
  exact law_post rfl rfl (by intro H ds h; have h' : ds.length = 2 := h; match ds, h' with | [_, _], _ => rfl) (by decide +kernel) SnapTells_at (env_of_laid hL) hval hW
theorem SnapTells_said : Rows.SnapTellsSaid :=
  OpenClaim.holds_of_cond 3 Tryd.f3 rfl rfl rfl rfl rfl rfl rfl ⟨rfl, rfl, rfl, rfl, rfl⟩ rfl rfl rfl rfl rfl (by kernel_rfl) Tryd.func3 (by kernel_rfl)
    (of_decide_eq_true (by kernel_rfl)) (by unfold Func.isWrapper; first | (rw [if_pos (by decide +kernel)]; kernel_rfl) | (rw [if_neg (by decide +kernel)]; exact ⟨rfl, rfl⟩))
    (fun os started H enc _ F => by rw [OpenClaim.pre_eq_preRow]; exact SnapTells_lifted os started H enc F)
theorem SnapTells_plain (f : FuncId) (fn : Func) (hf : Tryd.pinned.checked.prog.funcNamed "cachewise/cachewiselaw16.SnapTells" = some f) (hfn : Tryd.pinned.checked.prog.funcs[f]? = some fn) :
    true = Tryd.pinned.checked.prog.looks [] ∧ ∀ (j : Nat) t, fn.params[j]? = some t → Tryd.pinned.checked.prog.wantsStandIn t = false := by
  obtain rfl : f = 3 := Option.some.inj ((show Tryd.prog.funcNamed "cachewise/cachewiselaw16.SnapTells" = some 3 by kernel_rfl).symm.trans hf) |>.symm
  obtain rfl : fn = Tryd.f3 := (Option.some.inj (Tryd.func3.symm.trans hfn)).symm
  refine ⟨by kernel_rfl, fun j t ht => ?_⟩
  have hall : ∀ t, t ∈ Tryd.f3.params.toList → Tryd.prog.wantsStandIn t = false := by decide +kernel
  exact hall t (by simpa using Array.mem_of_getElem? ht)
theorem SnapTells_card : Rows.SnapTellsCardSaid :=
  Claim7.holds_tied_plain_at .later [] _ _ _ _ SnapTells_said (fun _ h => by cases h) (by kernel_rfl) (fun _ h => by cases h) snapTells_row_tie rfl ⟨rfl, rfl⟩ (by kernel_rfl) rfl SnapTells_plain (by kernel_rfl)
end Go.Proofs.YtggeppmiifkikaaDoor
