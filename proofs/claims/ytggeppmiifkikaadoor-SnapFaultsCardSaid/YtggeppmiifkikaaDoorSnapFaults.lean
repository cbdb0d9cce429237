/- A fault of a picture wraps the one that it comes of. -/
import Derived.Test.YtggeppmiifkikaaDoorSnapOk
import Derived.Test.YtggeppmiifkikaaDoorSnapLengths
import Derived.Deep.RegionWith
namespace Go.Proofs.YtggeppmiifkikaaDoor
open Go Go.RowKit Go.Shelf

theorem unwrap_fault (b : Nat) (op key : ByteArray) (ve : Value) (w : World) (h : w.heap[b]? = some (.cells #[.string op, .string key, ve] 59)) :
    Calls Tryd.prog 22 #[.iface 55 (.pointer (some ⟨b, 0, none⟩))] w fun e w' => e = .returned ve ∧ Keep w w' := by
  have h3 := assertUnFault (.pointer (some ⟨b, 0, none⟩))
  have h4 := methodUnwrap b
  go_enter Tryd.func22, Tryd.ntmps22
  go_wp2_with (go_at_call 74; refine (unwrap_any b op key _ _ h).mono ?_; rintro r w' ⟨rfl, rfl⟩)
  go_ret
  exact ⟨rfl, Keep.refl _⟩
theorem Is_no (k c : Int) (op : ByteArray) (v : Value) (w : World) (he : ErrAt w (.fault op ⟨#[]⟩ (.no c)) v) :
    Calls Tryd.prog 24 #[v, .iface 63 (.int .i64 k)] w fun r w' => r = .returned (.bool (c == k)) ∧ Keep w w' := by
  refine (Is_any k _ v w he trivial).mono ?_
  rintro r w' ⟨rfl, rfl⟩
  exact ⟨rfl, Keep.refl _⟩
theorem Wraps_miss (op key : ByteArray) (n c : Int) (v : Value) (w : World) (hg : Env w) (hc : c ≠ 0) (hn : n ≠ c) (he : ErrAt w (.fault op key (.no n)) v) :
    Calls Tryd.prog 16 #[v, .string op, .string key, .int .i64 c] w fun r w' => r = .returned (.bool false) ∧ Keep w w' := by
  have h := Wraps_fault op key op key (.no n) v c w hg hc he (sound_no n)
  have e : wrapsB (.fault op key (.no n)) op key c = false := by simp [wrapsB, isErr, hc, hn]
  rwa [e] at h
theorem cell_of_block {w : World} {b : Nat} {cs : Array Value} {t : TypeId} {fz : Nat × Nat} {v : Value} (h : w.heap[b]? = some (.cells cs t fz)) (off : Nat) (hv : cs[off]? = some v) : w.cell? ⟨b, off, none⟩ = some v := by simp [World.cell?, h, hv]
theorem first_bad : ∀ (l : List It), (¬ ∀ x ∈ l, itC x = 0) → ∃ (j : Nat) (x : It), l[j]? = some x ∧ itC x ≠ 0 ∧ ∀ i y, i < j → l[i]? = some y → itC y = 0
  | [], h => absurd (fun x hx => by cases hx) h
  | x :: l, h => by
    by_cases hx : itC x = 0
    · obtain ⟨j, y, h1, h2, h3⟩ := first_bad l fun hl => h fun y hy => by
        rcases List.mem_cons.1 hy with rfl | hy
        · exact hx
        · exact hl y hy
      refine ⟨j + 1, y, h1, h2, fun i z hi hz => ?_⟩
      cases i with
      | zero => cases hz; exact hx
      | succ i => exact h3 i z (by omega) hz
    · exact ⟨0, x, rfl, hx, fun i y hi => by omega⟩
abbrev sSnap : ByteArray := ⟨#[115, 110, 97, 112]⟩
abbrev sConfig : ByteArray := ⟨#[99, 111, 110, 102, 105, 103]⟩
abbrev sItem : ByteArray := ⟨#[105, 116, 101, 109]⟩
set_option maxRecDepth 100000 in
set_option maxHeartbeats 4000000 in
theorem walk_Faults_cfg (p : Pic) (v : Value) (W : World) (hE : Env W) (hv : ItemsAt W v p.items) (hf : PicFits p) (hfew : FewL p.items) (c : Int) (hc : c = 1 ∨ c = 7) (he : picE p = .fault ⟨#[115, 110, 97, 112]⟩ ⟨#[]⟩ (.fault ⟨#[99, 111, 110, 102, 105, 103]⟩ ⟨#[]⟩ (.no c)))
    (hcf : cfgE p.c = .fault ⟨#[99, 111, 110, 102, 105, 103]⟩ ⟨#[]⟩ (.no c)) :
    Calls Tryd.prog 8 #[.agg (picCells p v)] W fun r w' => r = .returned (.bool true) ∧ Holds W w' [] := by
  have hE := hide hE
  have H0 := (Holds.start W).alloc (o := .cells (picCells p v) 26)
  simp only [picCells] at H0
  have H0 := hide H0
  have cF := hide (fun w hv' => Few_val p v w hv' hf.len)
  have cR := hide (fun w hv' => Snap_Right p v w hv')
  have cG := hide (fun w => Snap_Fits p.c w)
  have hv := hide hv
  have hb := hide (decide_eq_true hfew)
  simp only [picCells, cfgCells] at cF cR cG
  rw [he] at cR
  rw [hcf] at cG
  unfold picCells
  clear hfew he hcf hf
  rcases hc with rfl | rfl
  all_goals
    go_enter Tryd.func8, Tryd.ntmps8
    go_wp2_with (first
      | (go_at_call 9; (with_reducible refine (awake16 _ (hE.out.keep H0.out.toKeep)).mono ?_); rintro r w1 ⟨rfl, h⟩; have H1 := hide (H0.out.keep h); obtain ⟨c0, c1, c2, c3, c4, c5, c6, c7, c8, c9⟩ := ten_cells H1.out; clear h)
      | (go_at_call 10; (with_reducible refine (cF.out _ (hv.out.keep H1.out.toKeep) _ hb.out).mono ?_); rintro r w2 ⟨rfl, h⟩; have H2 := hide (H1.out.keep h); obtain ⟨c0, c1, c2, c3, c4, c5, c6, c7, c8, c9⟩ := ten_cells H2.out; clear h)
      | (go_at_call 17; (with_reducible refine (cR.out _ (hv.out.keep H2.out.toKeep)).mono ?_); rintro r w3 ⟨u, rfl, h, hu⟩; have H3 := hide (H2.out.keep h); obtain ⟨bf, ve, rfl, hbf, hve⟩ := hu; have h0 := hide ((Holds.start w3).alloc (o := .cells #[.pointer none] 55)); have hbf := hide hbf; have hve := hide hve; clear h)
      | (go_at_call 21; (with_reducible refine (as_sl ⟨bf, 0, none⟩ (hE.out.keep H3.out.toKeep) h0.out).mono ?_); rintro r w4 ⟨rfl, h⟩; have x0 := Holds.cell (off := 0) h rfl; have k4 := hide h.toKeep; have x1 := cell_of_block (k4.out.block _ _ hbf.out) 0 rfl; have x2 := cell_of_block (k4.out.block _ _ hbf.out) 1 rfl; obtain ⟨c0, c1, c2, c3, c4, c5, c6, c7, c8, c9⟩ := ten_cells (H3.out.keep k4.out); clear h)
      | (go_at_call 18; (with_reducible refine (cG.out _).mono ?_); rintro r w5 ⟨g, rfl, h, hg⟩; obtain ⟨bg, vg, rfl, _⟩ := hg; replace k4 := hide (k4.out.trans h); clear h)
      | (go_at_call 22; (with_reducible refine (unwrap_fault bf _ _ ve _ (k4.out.block _ _ hbf.out)).mono ?_); rintro r w6 ⟨rfl, h⟩; replace k4 := hide (k4.out.trans h); clear h)
      | (go_at_call 16; (with_reducible refine (Wraps_hit _ _ 1 _ _ (hE.out.keep (H3.out.toKeep.trans k4.out)) (by decide) (hve.out.keep k4.out)).mono ?_); rintro r w7 ⟨rfl, h⟩; replace k4 := hide (k4.out.trans h); clear h)
      | (go_at_call 16; (with_reducible refine (Wraps_hit _ _ 7 _ _ (hE.out.keep (H3.out.toKeep.trans k4.out)) (by decide) (hve.out.keep k4.out)).mono ?_); rintro r w7 ⟨rfl, h⟩; replace k4 := hide (k4.out.trans h); clear h)
      | (go_at_call 16; (with_reducible refine (Wraps_miss _ _ 7 1 _ _ (hE.out.keep (H3.out.toKeep.trans k4.out)) (by decide) (by decide) (hve.out.keep k4.out)).mono ?_); rintro r w7 ⟨rfl, h⟩; replace k4 := hide (k4.out.trans h); clear h))
    go_ret
    exact ⟨rfl, (H3.out.keep k4.out).nil⟩
theorem walk_Faults_few (p : Pic) (v : Value) (W : World) (hE : Env W) (hv : ItemsAt W v p.items) (hf : PicFits p) (hfew : ¬ FewL p.items) :
    Calls Tryd.prog 8 #[.agg (picCells p v)] W fun r w' => r = .returned (.bool true) ∧ Holds W w' [] := by
  have hE := hide hE
  have H0 := (Holds.start W).alloc (o := .cells (picCells p v) 26)
  simp only [picCells] at H0
  have H0 := hide H0
  have cF := hide (fun w hv' => Few_val p v w hv' hf.len)
  have hv := hide hv
  have hb := hide (decide_eq_false hfew)
  simp only [picCells] at cF
  unfold picCells
  clear hfew hf
  go_enter Tryd.func8, Tryd.ntmps8
  go_wp2_with (first
      | (go_at_call 9; (with_reducible refine (awake16 _ (hE.out.keep H0.out.toKeep)).mono ?_); rintro r w1 ⟨rfl, h⟩; have H1 := hide (H0.out.keep h); obtain ⟨c0, c1, c2, c3, c4, c5, c6, c7, c8, c9⟩ := ten_cells H1.out; clear h)
      | (go_at_call 10; (with_reducible refine (cF.out _ (hv.out.keep H1.out.toKeep) _ hb.out).mono ?_); rintro r w2 ⟨rfl, h⟩; have H2 := hide (H1.out.keep h); obtain ⟨c0, c1, c2, c3, c4, c5, c6, c7, c8, c9⟩ := ten_cells H2.out; clear h))
  go_ret
  exact ⟨rfl, H2.out.nil⟩
set_option maxRecDepth 100000 in
set_option maxHeartbeats 4000000 in
theorem walk_Faults_ok (p : Pic) (v : Value) (W : World) (hE : Env W) (hv : ItemsAt W v p.items) (hf : PicFits p) (hfew : FewL p.items) (hok : OkP p) :
    Calls Tryd.prog 8 #[.agg (picCells p v)] W fun r w' => r = .returned (.bool true) ∧ Holds W w' [] := by
  have hE := hide hE
  obtain ⟨n, hn⟩ : ∃ n, p.items.length = n := ⟨_, rfl⟩
  obtain ⟨ao, cap, rfl⟩ := hv.shape' hn
  have H0 := (Holds.start W).alloc (o := .cells (picCells p (.slice ao n cap)) 26)
  simp only [picCells] at H0
  have H0 := hide H0
  have cF := hide (fun w hv' => Few_val p (.slice ao n cap) w hv' hf.len)
  have cR := hide (fun w hv' => Snap_Right p (.slice ao n cap) w hv')
  have cG := hide (fun w => Snap_Fits p.c w)
  have hv := hide hv
  have hb := hide (decide_eq_true hfew)
  have hsz : (n : Int) ≤ p.c.size := by rw [← hn]; exact hok.len
  have hcf : cfgE p.c = .nil := if_pos hok.cfg
  have he := hok.nil
  simp only [picCells, cfgCells] at cF cR cG
  rw [he] at cR
  rw [hcf] at cG
  unfold picCells
  have hn := hide hn
  clear hfew he hcf hf hok
  go_enter Tryd.func8, Tryd.ntmps8
  go_wp2_with (first
      | (go_at_call 9; (with_reducible refine (awake16 _ (hE.out.keep H0.out.toKeep)).mono ?_); rintro r w1 ⟨rfl, h⟩; have H1 := hide (H0.out.keep h); obtain ⟨c0, c1, c2, c3, c4, c5, c6, c7, c8, c9⟩ := ten_cells H1.out; clear h)
      | (go_at_call 10; (with_reducible refine (cF.out _ (hv.out.keep H1.out.toKeep) _ hb.out).mono ?_); rintro r w2 ⟨rfl, h⟩; have H2 := hide (H1.out.keep h); obtain ⟨c0, c1, c2, c3, c4, c5, c6, c7, c8, c9⟩ := ten_cells H2.out; clear h)
      | (go_at_call 17; (with_reducible refine (cR.out _ (hv.out.keep H2.out.toKeep)).mono ?_); rintro r w3 ⟨u, rfl, h, rfl⟩; have H3 := hide (H2.out.keep h); obtain ⟨c0, c1, c2, c3, c4, c5, c6, c7, c8, c9⟩ := ten_cells H3.out; clear h)
      | (go_at_call 18; (with_reducible refine (cG.out _).mono ?_); rintro r w5 ⟨g, rfl, h, rfl⟩; have H4 := hide (H3.out.keep h); obtain ⟨c0, c1, c2, c3, c4, c5, c6, c7, c8, c9⟩ := ten_cells H4.out; clear h))
  go_ret
  exact ⟨rfl, H4.out.nil⟩
/-- A number of a picture is none that may be. -/
def badNum (p : Pic) : Prop := p.kind < 0 ∨ (0 ≤ p.kind ∧ 7 ≤ p.kind) ∨ (0 ≤ p.kind ∧ p.kind < 7 ∧ p.now < 0) ∨ (0 ≤ p.kind ∧ p.kind < 7 ∧ 0 ≤ p.now ∧ 1099511627776 < p.now) ∨ (0 ≤ p.kind ∧ p.kind < 7 ∧ 0 ≤ p.now ∧ p.now ≤ 1099511627776 ∧ p.c.size < p.items.length)
set_option maxRecDepth 100000 in
set_option maxHeartbeats 16000000 in
theorem walk_Faults_pass (p : Pic) (v : Value) (W : World) (hE : Env W) (hv : ItemsAt W v p.items) (hf : PicFits p) (hfew : FewL p.items) (c : Int) (hc : c = 7 ∨ c = 1 ∨ c = 11 ∨ c = 10)
    (he : picE p = .fault ⟨#[115, 110, 97, 112]⟩ ⟨#[]⟩ (.no c)) (hcf : cfgE p.c = .nil) (hpass : (∀ x ∈ p.items, itC x = 0) ∨ badNum p) :
    Calls Tryd.prog 8 #[.agg (picCells p v)] W fun r w' => r = .returned (.bool true) ∧ Holds W w' [] := by
  have hE := hide hE
  obtain ⟨n, hn⟩ : ∃ n, p.items.length = n := ⟨_, rfl⟩
  obtain ⟨ao, cap, rfl⟩ := hv.shape' hn
  have H0 := (Holds.start W).alloc (o := .cells (picCells p (.slice ao n cap)) 26)
  simp only [picCells] at H0
  have H0 := hide H0
  have cF := hide (fun w hv' => Few_val p (.slice ao n cap) w hv' hf.len)
  have cR := hide (fun w hv' => Snap_Right p (.slice ao n cap) w hv')
  have cG := hide (fun w => Snap_Fits p.c w)
  have hv := hide hv
  have hb := hide (decide_eq_true hfew)
  simp only [picCells, cfgCells] at cF cR cG
  rw [he] at cR
  rw [hcf] at cG
  unfold picCells
  unfold badNum at hpass
  rw [hn] at hpass
  have hn40 : n ≤ 40 := by have := hfew.1; omega
  have hn := hide hn
  have hpass := hide hpass
  clear hfew he hcf hf
  go_enter Tryd.func8, Tryd.ntmps8
  go_wp2_with (first
      | (go_at_call 9; (with_reducible refine (awake16 _ (hE.out.keep H0.out.toKeep)).mono ?_); rintro r w1 ⟨rfl, h⟩; have H1 := hide (H0.out.keep h); obtain ⟨c0, c1, c2, c3, c4, c5, c6, c7, c8, c9⟩ := ten_cells H1.out; clear h)
      | (go_at_call 10; (with_reducible refine (cF.out _ (hv.out.keep H1.out.toKeep) _ hb.out).mono ?_); rintro r w2 ⟨rfl, h⟩; have H2 := hide (H1.out.keep h); obtain ⟨c0, c1, c2, c3, c4, c5, c6, c7, c8, c9⟩ := ten_cells H2.out; clear h)
      | (go_at_call 17; (with_reducible refine (cR.out _ (hv.out.keep H2.out.toKeep)).mono ?_); rintro r w3 ⟨u, rfl, h, hu⟩; have H3 := hide (H2.out.keep h); obtain ⟨bf, ve, rfl, hbf, hve⟩ := hu; have h0 := hide ((Holds.start w3).alloc (o := .cells #[.pointer none] 55)); have hbf := hide hbf; have hve := hide hve; clear h)
      | (go_at_call 21; (with_reducible refine (as_sl ⟨bf, 0, none⟩ (hE.out.keep H3.out.toKeep) h0.out).mono ?_); rintro r w4 ⟨rfl, h⟩; have x0 := Holds.cell (off := 0) h rfl; have k4 := hide h.toKeep; have x1 := cell_of_block (k4.out.block _ _ hbf.out) 0 rfl; have x2 := cell_of_block (k4.out.block _ _ hbf.out) 1 rfl; obtain ⟨c0, c1, c2, c3, c4, c5, c6, c7, c8, c9⟩ := ten_cells (H3.out.keep k4.out); clear h)
      | (go_at_call 18; (with_reducible refine (cG.out _).mono ?_); rintro r w5 ⟨g, rfl, h, rfl⟩; replace k4 := hide (k4.out.trans h); clear h))
  obtain ⟨d0, d1, d2, d3, d4, d5, d6, d7, d8, d9⟩ := ten_cells H3.out
  replace k4 := hide k4.out
  go_loopw [6] (fun i wr => ∃ k : Nat, i = .int .i64 k ∧ k ≤ n ∧ Keep w3 wr) (fun i _ => (n - intOf i).toNat)
  case atStart => exact ⟨0, rfl, Nat.zero_le _, k4.out⟩
  case round =>
    obtain ⟨k, rfl, hk, hh⟩ := hrel
    have e0 := hh.cell d0
    have e7 := hh.cell d7
    have e8 := hh.cell d8
    have e9 := hh.cell d9
    by_cases hlt : k < n
    · have hlt' : (k : Int) < n := by omega
      obtain ⟨x, hx⟩ : ∃ x, p.items[k]? = some x := ⟨_, List.getElem?_eq_getElem (by have := hn.out; omega)⟩
      obtain ⟨bb, off, rfl, q0, q1, q2⟩ := (hv.out.keep H3.out.toKeep).get k hx
      have q0 := hh.cell q0
      have q1 := hh.cell q1
      have q2 := hh.cell q2
      have cV := hide (fun w => Val_Right x w)
      rcases hpass.out with h0 | h0
      · have hi : itE x = .nil := if_pos (h0 x (List.mem_of_getElem? hx))
        rw [hi] at cV
        clear hi h0 hx
        have hh := hide hh
        go_wp2_with (go_at_call 23; (with_reducible refine (cV.out _).mono ?_); rintro r wn ⟨g, rfl, h, rfl⟩; have k5 := hide (hh.out.trans h); clear h)
        go_roundw
        case rel => exact ⟨k + 1, by go_num, hlt, k5.out⟩
        case measure => (simp [intOf] <;> omega)
      · by_cases hi : itC x = 0
        · have hi : itE x = .nil := if_pos hi
          rw [hi] at cV
          clear hi h0 hx
          have hh := hide hh
          go_wp2_with (go_at_call 23; (with_reducible refine (cV.out _).mono ?_); rintro r wn ⟨g, rfl, h, rfl⟩; have k5 := hide (hh.out.trans h); clear h)
          go_roundw
          case rel => exact ⟨k + 1, by go_num, hlt, k5.out⟩
          case measure => (simp [intOf] <;> omega)
        · have hi : itE x = .fault tItem x.key (.no (itC x)) := if_neg hi
          rw [hi] at cV
          clear hi hx
          have hh := hide hh
          rcases h0 with h0 | ⟨h0, h1⟩ | ⟨h0, h1, h2⟩ | ⟨h0, h1, h2, h3⟩ | ⟨h0, h1, h2, h3, h4⟩
          all_goals
            go_wp2_with (go_at_call 23; (with_reducible refine (cV.out _).mono ?_); rintro r wn ⟨g, rfl, h, hg⟩; obtain ⟨bg, vg, rfl, _⟩ := hg; have k5 := hide (hh.out.trans h); have e0 := h.cell e0; have e7 := h.cell e7; have e8 := h.cell e8; have e9 := h.cell e9; clear h)
            go_roundw
            case rel => exact ⟨k + 1, by go_num, hlt, k5.out⟩
            case measure => (simp [intOf] <;> omega)
    · obtain rfl : n = k := by omega
      have hee := hide (show ErrAt w3 (.fault ⟨#[115, 110, 97, 112]⟩ ⟨#[]⟩ (.no c)) (.iface 55 (.pointer (some ⟨bf, 0, none⟩))) from ⟨bf, ve, rfl, hbf.out, hve.out⟩)
      have k5 := hide hh
      clear hh
      rcases hc with rfl | rfl | rfl | rfl
      all_goals
        go_wp2_with (first
          | (go_at_call 24; (with_reducible refine (Is_no 7 _ _ _ _ (hee.out.keep k5.out)).mono ?_); rintro r wn ⟨rfl, h⟩; replace k5 := hide (k5.out.trans h); clear h)
          | (go_at_call 24; (with_reducible refine (Is_no 1 _ _ _ _ (hee.out.keep k5.out)).mono ?_); rintro r wn ⟨rfl, h⟩; replace k5 := hide (k5.out.trans h); clear h)
          | (go_at_call 24; (with_reducible refine (Is_no 11 _ _ _ _ (hee.out.keep k5.out)).mono ?_); rintro r wn ⟨rfl, h⟩; replace k5 := hide (k5.out.trans h); clear h)
          | (go_at_call 24; (with_reducible refine (Is_no 10 _ _ _ _ (hee.out.keep k5.out)).mono ?_); rintro r wn ⟨rfl, h⟩; replace k5 := hide (k5.out.trans h); clear h))
        go_ret
        exact ⟨rfl, (H3.out.keep k5.out).nil⟩
set_option maxRecDepth 100000 in
set_option maxHeartbeats 16000000 in
theorem walk_Faults_item (p : Pic) (v : Value) (W : World) (hE : Env W) (hv : ItemsAt W v p.items) (hf : PicFits p) (hfew : FewL p.items) (j : Nat) (x : It) (c : Int) (hx : p.items[j]? = some x) (hlow : ∀ i y, i < j → p.items[i]? = some y → itC y = 0)
    (hix : itE x = .fault ⟨#[105, 116, 101, 109]⟩ x.key (.no c)) (he : picE p = .fault ⟨#[115, 110, 97, 112]⟩ ⟨#[]⟩ (.fault ⟨#[105, 116, 101, 109]⟩ x.key (.no c))) (hcf : cfgE p.c = .nil)
    (g0 : 0 ≤ p.kind) (g1 : p.kind < 7) (g2 : 0 ≤ p.now) (g3 : p.now ≤ 1099511627776) (g4 : (p.items.length : Int) ≤ p.c.size) :
    Calls Tryd.prog 8 #[.agg (picCells p v)] W fun r w' => r = .returned (.bool true) ∧ Holds W w' [] := by
  have hE := hide hE
  obtain ⟨n, hn⟩ : ∃ n, p.items.length = n := ⟨_, rfl⟩
  obtain ⟨ao, cap, rfl⟩ := hv.shape' hn
  have H0 := (Holds.start W).alloc (o := .cells (picCells p (.slice ao n cap)) 26)
  simp only [picCells] at H0
  have H0 := hide H0
  have cF := hide (fun w hv' => Few_val p (.slice ao n cap) w hv' hf.len)
  have cR := hide (fun w hv' => Snap_Right p (.slice ao n cap) w hv')
  have cG := hide (fun w => Snap_Fits p.c w)
  have hv := hide hv
  have hb := hide (decide_eq_true hfew)
  simp only [picCells, cfgCells] at cF cR cG
  rw [he] at cR
  rw [hcf] at cG
  unfold picCells
  have hn40 : n ≤ 40 := by have := hfew.1; omega
  have hjn : j < n := by rw [← hn]; exact (List.getElem?_eq_some_iff.1 hx).1
  rw [hn] at g4
  have hn := hide hn
  have hx := hide hx
  have hlow := hide hlow
  have hix := hide hix
  clear hfew he hcf hf
  go_enter Tryd.func8, Tryd.ntmps8
  go_wp2_with (first
      | (go_at_call 9; (with_reducible refine (awake16 _ (hE.out.keep H0.out.toKeep)).mono ?_); rintro r w1 ⟨rfl, h⟩; have H1 := hide (H0.out.keep h); obtain ⟨c0, c1, c2, c3, c4, c5, c6, c7, c8, c9⟩ := ten_cells H1.out; clear h)
      | (go_at_call 10; (with_reducible refine (cF.out _ (hv.out.keep H1.out.toKeep) _ hb.out).mono ?_); rintro r w2 ⟨rfl, h⟩; have H2 := hide (H1.out.keep h); obtain ⟨c0, c1, c2, c3, c4, c5, c6, c7, c8, c9⟩ := ten_cells H2.out; clear h)
      | (go_at_call 17; (with_reducible refine (cR.out _ (hv.out.keep H2.out.toKeep)).mono ?_); rintro r w3 ⟨u, rfl, h, hu⟩; have H3 := hide (H2.out.keep h); obtain ⟨bf, ve, rfl, hbf, hve⟩ := hu; have h0 := hide ((Holds.start w3).alloc (o := .cells #[.pointer none] 55)); have hbf := hide hbf; have hve := hide hve; clear h)
      | (go_at_call 21; (with_reducible refine (as_sl ⟨bf, 0, none⟩ (hE.out.keep H3.out.toKeep) h0.out).mono ?_); rintro r w4 ⟨rfl, h⟩; have x0 := Holds.cell (off := 0) h rfl; have k4 := hide h.toKeep; have x1 := cell_of_block (k4.out.block _ _ hbf.out) 0 rfl; have x2 := cell_of_block (k4.out.block _ _ hbf.out) 1 rfl; obtain ⟨c0, c1, c2, c3, c4, c5, c6, c7, c8, c9⟩ := ten_cells (H3.out.keep k4.out); clear h)
      | (go_at_call 18; (with_reducible refine (cG.out _).mono ?_); rintro r w5 ⟨g, rfl, h, rfl⟩; replace k4 := hide (k4.out.trans h); clear h))
  obtain ⟨d0, d1, d2, d3, d4, d5, d6, d7, d8, d9⟩ := ten_cells H3.out
  replace k4 := hide k4.out
  go_loopw [6] (fun i wr => ∃ k : Nat, i = .int .i64 k ∧ k ≤ j ∧ Keep w3 wr) (fun i _ => (n - intOf i).toNat)
  case atStart => exact ⟨0, rfl, Nat.zero_le _, k4.out⟩
  case round =>
    obtain ⟨k, rfl, hk, hh⟩ := hrel
    have e0 := hh.cell d0
    have e7 := hh.cell d7
    have e8 := hh.cell d8
    have e9 := hh.cell d9
    have hlt : k < n := by omega
    have hlt' : (k : Int) < n := by omega
    by_cases hkj : k < j
    · obtain ⟨y, hy⟩ : ∃ y, p.items[k]? = some y := ⟨_, List.getElem?_eq_getElem (by have := hn.out; omega)⟩
      obtain ⟨bb, off, rfl, q0, q1, q2⟩ := (hv.out.keep H3.out.toKeep).get k hy
      have q0 := hh.cell q0
      have q1 := hh.cell q1
      have q2 := hh.cell q2
      have cV := hide (fun w => Val_Right y w)
      have hi : itE y = .nil := if_pos (hlow.out k y hkj hy)
      rw [hi] at cV
      clear hi hy
      have hh := hide hh
      go_wp2_with (go_at_call 23; (with_reducible refine (cV.out _).mono ?_); rintro r wn ⟨g, rfl, h, rfl⟩; have k5 := hide (hh.out.trans h); clear h)
      go_roundw
      case rel => exact ⟨k + 1, by go_num, hkj, k5.out⟩
      case measure => (simp [intOf] <;> omega)
    · obtain rfl : j = k := by omega
      obtain ⟨bb, off, rfl, q0, q1, q2⟩ := (hv.out.keep H3.out.toKeep).get j hx.out
      have q0 := hh.cell q0
      have q1 := hh.cell q1
      have q2 := hh.cell q2
      have cV := hide (fun w => Val_Right x w)
      rw [hix.out] at cV
      obtain ⟨bi, vi, rfl, hbi, hvi⟩ := hve.out
      have hbi := hide (hh.block _ _ hbi)
      replace hbf := hide (hh.block _ _ hbf.out)
      obtain ⟨pb, hpb⟩ : ∃ pb, W.heap.size = pb := ⟨_, rfl⟩
      rw [hpb] at e0 e7 e8 e9
      simp only [hpb]
      have hE5 := hide (hE.out.keep (H3.out.toKeep.trans hh))
      have hK5 := hide ((H3.out.keep hh).nil)
      clear hh hve hvi d0 d1 d2 d3 d4 d5 d6 d7 d8 d9
      go_wp2_with (go_at_call 23; (with_reducible refine (cV.out _).mono ?_); rintro r wn ⟨g, rfl, h, hg⟩; obtain ⟨bg, vg, rfl, _⟩ := hg; have k5 := hide h; have e0 := h.cell e0; have e7 := h.cell e7; have e8 := h.cell e8; have e9 := h.cell e9; have q0 := h.cell q0; have h8 := hide ((Holds.start wn).alloc (o := .cells #[.pointer none] 55)).drew; clear h)
      go_region_with ((first
        | (go_at_call 22; (with_reducible refine (unwrap_fault bf _ _ _ _ (h8.out.toKeep.block _ _ (k5.out.block _ _ hbf.out))).mono ?_); rintro r w6 ⟨rfl, h⟩; replace h8 := hide (h8.out.keep h); clear h)
        | (go_at_call 21; (with_reducible refine (as_sl ⟨bi, 0, none⟩ (hE5.out.keep k5.out) h8.out).mono ?_); rintro r w7 ⟨rfl, h⟩; have x0 := Holds.cell (off := 0) h rfl; have k7 := h.toKeep; have x1 := cell_of_block (k7.block _ _ (k5.out.block _ _ hbi.out)) 0 rfl; have x2 := cell_of_block (k7.block _ _ (k5.out.block _ _ hbi.out)) 1 rfl; have e9 := k7.cell e9; have q0 := k7.cell q0; have h9 := hide (k5.out.trans k7); clear h k7)))
      all_goals
        go_wp2
        go_ret
        exact ⟨rfl, hK5.out.keep h9.out⟩
theorem SnapFaults_at : LawAt 8 Tryd.f8 := by
  intro W args hE hA
  rw [Tryd.params8] at hA
  obtain ⟨v0, vs0, e0, a0, hA⟩ := args_cons hA
  obtain rfl := args_nil hA
  obtain ⟨p, u, rfl, hv, hf⟩ := pic_of_arg a0
  obtain rfl : args = #[.agg (picCells p u)] := by cases args; simpa using e0
  by_cases hfew : FewL p.items
  · by_cases hc : cfgC p.c = 0
    · have hcf : cfgE p.c = .nil := if_pos hc
      by_cases h1 : 0 ≤ p.kind ∧ p.kind ≤ 6
      · by_cases h2 : (0 ≤ p.now ∧ p.now ≤ 1099511627776) ∧ (p.items.length : Int) ≤ p.c.size
        · by_cases hall : ∀ x ∈ p.items, itC x = 0
          · have h0 : ∀ (i : Nat) (y : It), p.items[i]? = some y → itC y = 0 := fun i y hy => hall y (List.mem_of_getElem? hy)
            have hr := picE_rest hc h1 h2
            cases ho : p.items.any (overI p.now)
            · cases ht : twiceN p.items p.items.length
              · exact walk_Faults_ok p u W hE hv hf hfew (okP_of (by rw [hr]; exact rest_fine h0 ho ht))
              · exact walk_Faults_pass p u W hE hv hf hfew 10 (by omega) (by rw [hr]; exact rest_twice h0 ho ht) hcf (.inl hall)
            · exact walk_Faults_pass p u W hE hv hf hfew 11 (by omega) (by rw [hr]; exact rest_over h0 ho) hcf (.inl hall)
          · obtain ⟨j, x, hx, hb, hlow⟩ := first_bad p.items hall
            have hi : itE x = .fault tItem x.key (.no (itC x)) := if_neg hb
            exact walk_Faults_item p u W hE hv hf hfew j x (itC x) hx hlow hi (by rw [picE_rest hc h1 h2, rest_at hx hlow hb, hi]; rfl) hcf h1.1 (by omega) h2.1.1 h2.1.2 h2.2
        · refine walk_Faults_pass p u W hE hv hf hfew 1 (by omega) (picE_now hc h1 h2) hcf (.inr ?_)
          unfold badNum
          omega
      · refine walk_Faults_pass p u W hE hv hf hfew 7 (by omega) (picE_kind hc h1) hcf (.inr ?_)
        unfold badNum
        omega
    · have hcf := cfgE_ne hc
      refine walk_Faults_cfg p u W hE hv hf hfew (cfgC p.c) ?_ (by rw [picE_cfg hc, hcf]; rfl) (by rw [hcf]; rfl)
      unfold cfgC at hc ⊢
      split
      · exact .inr rfl
      · split
        · exact .inl rfl
        · rename_i h1 h2
          rw [if_neg h1, if_neg h2] at hc
          exact absurd rfl hc
  · exact walk_Faults_few p u W hE hv hf hfew
set_option maxRecDepth 100000 in
theorem SnapFaults_lifted (os : Os) (started : os.Started) (H : Type) (enc : TypeId × Value → H) (F : Stop.Interp) :
    ReturnsInHanded {} Tryd.checked os 8 .any ((OpenSpec.ofChange Rows.snapFaultsSpec).preRow enc Tryd.prog Tryd.f8 Rows.snapFaultsRow.domain false Rows.snapFaultsRow.laid) (((OpenSpec.ofChange Rows.snapFaultsSpec).at F).post enc Tryd.prog Tryd.f8 false true false false) := by
  have hx : DataW.whole enc Tryd.prog ((laidWorld os).forCall (fun _ _ => 0) ⟨#[], #[.agg (picCells noPic (.slice none 0 0))], []⟩).memory Tryd.f8.params.toList Rows.snapFaultsSpec.vars false (#[.agg (picCells noPic (.slice none 0 0))] : Array Value).toList 16 = some ([.agg [.agg [.lit (.int .i64 0), .lit (.int .i64 0), .lit (.int .i64 0), .lit (.int .i64 0), .lit (.int .i64 0), .lit (.int .i64 0), .lit (.int .i64 0)], .lit (.int .i64 0), .lit (.int .i64 0), .nil]], [], []) := by kernel_rfl
  refine returnsInHanded_of_row (C := Tryd.checked) (s := OpenSpec.ofChange Rows.snapFaultsSpec) own started (by kernel_rfl) Tryd.func8
    (witness_row_at (enc := enc) (C := Tryd.checked) false (laidWorld os) #[.agg (picCells noPic (.slice none 0 0))] rfl (by kernel_rfl) (by kernel_rfl) (by kernel_rfl)
      (OpenSpec.preRow_of_cond 16 hx (by kernel_rfl) (fun k hk => by cases hk) (by kernel_rfl) (laidWorld_met os _))) ?_
  intro W base args ds gs before hval hW _ _ _ hL _ _
  exact law_post rfl rfl (by intro H ds h; have h' : ds.length = 1 := h; match ds, h' with | [_], _ => rfl) (by decide +kernel) SnapFaults_at (env_of_laid hL) hval hW
theorem SnapFaults_said : Rows.SnapFaultsSaid :=
  OpenClaim.holds_of_cond 8 Tryd.f8 rfl rfl rfl rfl rfl rfl rfl ⟨rfl, rfl, rfl, rfl, rfl⟩ rfl rfl rfl rfl rfl (by kernel_rfl) Tryd.func8 (by kernel_rfl)
    (of_decide_eq_true (by kernel_rfl)) (by unfold Func.isWrapper; first | (rw [if_pos (by decide +kernel)]; kernel_rfl) | (rw [if_neg (by decide +kernel)]; exact ⟨rfl, rfl⟩))
    (fun os started H enc _ F => by rw [OpenClaim.pre_eq_preRow]; exact SnapFaults_lifted os started H enc F)
theorem SnapFaults_plain (f : FuncId) (fn : Func) (hf : Tryd.pinned.checked.prog.funcNamed "cachewise/cachewiselaw16.SnapFaults" = some f) (hfn : Tryd.pinned.checked.prog.funcs[f]? = some fn) :
    true = Tryd.pinned.checked.prog.looks [] ∧ ∀ (j : Nat) t, fn.params[j]? = some t → Tryd.pinned.checked.prog.wantsStandIn t = false := by
  obtain rfl : f = 8 := Option.some.inj ((show Tryd.prog.funcNamed "cachewise/cachewiselaw16.SnapFaults" = some 8 by kernel_rfl).symm.trans hf) |>.symm
  obtain rfl : fn = Tryd.f8 := (Option.some.inj (Tryd.func8.symm.trans hfn)).symm
  refine ⟨by kernel_rfl, fun j t ht => ?_⟩
  have hall : ∀ t, t ∈ Tryd.f8.params.toList → Tryd.prog.wantsStandIn t = false := by decide +kernel
  exact hall t (by simpa using Array.mem_of_getElem? ht)
theorem SnapFaults_card : Rows.SnapFaultsCardSaid :=
  Claim7.holds_tied_plain_at .later [] _ _ _ _ SnapFaults_said (fun _ h => by cases h) (by kernel_rfl) (fun _ h => by cases h) snapFaults_row_tie rfl ⟨rfl, rfl⟩ (by kernel_rfl) rfl SnapFaults_plain (by kernel_rfl)
end Go.Proofs.YtggeppmiifkikaaDoor
