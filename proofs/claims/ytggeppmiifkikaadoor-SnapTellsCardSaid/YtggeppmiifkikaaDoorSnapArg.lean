/- A picture, as an argument; Few. -/
import Derived.Test.YtggeppmiifkikaaDoorSnapAwake
import Derived.Test.YtggeppmiifkikaaDoorLift
namespace Go.Proofs.YtggeppmiifkikaaDoor
open Go Go.RowKit Go.Shelf

def i64ok (x : Int) : Prop := -9223372036854775808 ≤ x ∧ x ≤ 9223372036854775807
structure PicFits (p : Pic) : Prop where
  size : i64ok p.c.size
  shift : i64ok p.c.shift
  window : i64ok p.c.window
  margin : i64ok p.c.margin
  hold : i64ok p.c.hold
  quota : i64ok p.c.quota
  pin : i64ok p.c.pin
  kind : i64ok p.kind
  now : i64ok p.now
  item : ∀ x ∈ p.items, i64ok x.dl ∧ x.key.size ≤ maxLen ∧ x.val.size ≤ maxLen
  len : p.items.length ≤ maxLen
set_option maxRecDepth 100000 in
theorem item_of_shp {W : World} {n : Nat} {a : Addr} {cs : List Value} (hc : W.cells? 0 a 3 = some cs) (h : Shp Tryd.prog W n 53 cs) :
    a.spot = none ∧ ∃ x : It, (W.cell? ⟨a.block, a.off, none⟩ = some (.string x.key) ∧ W.cell? ⟨a.block, a.off + 1, none⟩ = some (.string x.val) ∧ W.cell? ⟨a.block, a.off + 1 + 1, none⟩ = some (.int .i64 x.dl)) ∧ i64ok x.dl ∧ x.key.size ≤ maxLen ∧ x.val.size ≤ maxLen := by
  obtain ⟨_, hl, hat⟩ := World.cells?_some hc
  obtain ⟨hl2, n', hf⟩ := shp_struct Tryd.underlying53 h
  have e1 : Tryd.prog.cellsOf 3 = 1 := by kernel_rfl
  have es : Tryd.prog.cellsOf 9 = 1 := by kernel_rfl
  match cs, hl with
  | [d0, d1, d2], _ =>
    have f0 := hf _ (List.mem_cons_self)
    have f1 := hf _ (List.mem_cons_of_mem _ List.mem_cons_self)
    have f2 := hf _ (List.mem_cons_of_mem _ (List.mem_cons_of_mem _ List.mem_cons_self))
    simp only [e1, es, List.drop_zero, List.drop_succ_cons, List.take_succ_cons, List.take_zero, List.take_nil] at f0 f1 f2
    obtain ⟨k, hk, lk⟩ := shp_string Tryd.underlying9 f0
    obtain ⟨v, hv, lv⟩ := shp_string Tryd.underlying9 f1
    obtain ⟨d, hd, wd⟩ := shp_int Tryd.underlying3 f2
    simp only [List.cons.injEq, and_true] at hk hv hd
    subst hk hv hd
    have hsp : a.spot = none := by
      have h0 := hat 0 (by decide)
      simp only [Addr.add, if_true, List.getElem?_cons_zero] at h0
      unfold World.cell? at h0
      split at h0
      · split at h0
        · cases h0
        · rename_i hs; simpa using hs
      · cases h0
    obtain ⟨ab, ao, asp⟩ := a
    simp only at hsp
    subst hsp
    exact ⟨rfl, ⟨k, v, d⟩, ⟨hat 0 (by decide), hat 1 (by decide), hat 2 (by decide)⟩, i64_bounds wd, lk, lv⟩
theorem items_of_shp {W : World} {n : Nat} {cs : List Value} (h : Shp Tryd.prog W n 24 cs) :
    ∃ v l, cs = [v] ∧ ItemsAt W v l ∧ (∀ x ∈ l, i64ok x.dl ∧ x.key.size ≤ maxLen ∧ x.val.size ≤ maxLen) ∧ l.length ≤ maxLen := by
  have e3 : Tryd.prog.cellsOf 53 = 3 := by kernel_rfl
  rcases shp_slice Tryd.underlying24 h with rfl | ⟨a, len, cap, n', rfl, h1, h2, h3⟩
  · exact ⟨_, [], rfl, .inl ⟨⟨_, _, rfl⟩, rfl⟩, (fun x hx => by cases hx), Nat.zero_le _⟩
  · rw [e3] at h3
    cases len with
    | zero => exact ⟨_, [], rfl, .inl ⟨⟨_, _, rfl⟩, rfl⟩, (fun x hx => by cases hx), Nat.zero_le _⟩
    | succ m =>
      have hsp : a.spot = none := by
        obtain ⟨cs', hc, hs⟩ := h3 0 (by omega)
        have := (item_of_shp hc hs).1
        rwa [Nat.zero_mul, show a.add 0 = a by unfold Addr.add; exact if_pos rfl] at this
      obtain ⟨ab, ao, asp⟩ := a
      simp only at hsp
      subst hsp
      have hadd : ∀ j, (⟨ab, ao, none⟩ : Addr).add j = ⟨ab, ao + j, none⟩ := fun j => by unfold Addr.add; split <;> simp_all
      have g : ∀ i, i < m + 1 → ∃ x : It, (W.cell? ⟨ab, ao + i * 3, none⟩ = some (.string x.key) ∧ W.cell? ⟨ab, ao + i * 3 + 1, none⟩ = some (.string x.val) ∧ W.cell? ⟨ab, ao + i * 3 + 1 + 1, none⟩ = some (.int .i64 x.dl)) ∧ i64ok x.dl ∧ x.key.size ≤ maxLen ∧ x.val.size ≤ maxLen := fun i hi => by
        obtain ⟨cs', hc, hs⟩ := h3 i hi
        obtain ⟨_, x, hx, hb⟩ := item_of_shp hc hs
        rw [hadd] at hx
        exact ⟨x, hx, hb⟩
      obtain ⟨f, hf⟩ : ∃ f : Nat → It, ∀ i, i < m + 1 → (W.cell? ⟨ab, ao + i * 3, none⟩ = some (.string (f i).key) ∧ W.cell? ⟨ab, ao + i * 3 + 1, none⟩ = some (.string (f i).val) ∧ W.cell? ⟨ab, ao + i * 3 + 1 + 1, none⟩ = some (.int .i64 (f i).dl)) ∧ i64ok (f i).dl ∧ (f i).key.size ≤ maxLen ∧ (f i).val.size ≤ maxLen := by
        refine ⟨fun i => if hi : i < m + 1 then Classical.choose (g i hi) else ⟨⟨#[]⟩, ⟨#[]⟩, 0⟩, fun i hi => ?_⟩
        dsimp only
        rw [dif_pos hi]
        exact Classical.choose_spec (g i hi)
      refine ⟨_, (List.range (m + 1)).map f, rfl, .inr ⟨ab, ao, cap, by simp, by simpa using h1, h2, fun j x hx => ?_⟩, fun x hx => ?_, by simp; omega⟩
      · obtain ⟨hj, rfl⟩ : j < m + 1 ∧ f j = x := by
          rw [List.getElem?_map, Option.map_eq_some_iff] at hx
          obtain ⟨i, hi, rfl⟩ := hx
          obtain ⟨hl, he⟩ := List.getElem?_eq_some_iff.1 hi
          rw [List.length_range] at hl
          rw [List.getElem_range] at he
          subst he
          exact ⟨hl, rfl⟩
        exact (hf j hj).1
      · obtain ⟨i, hi, rfl⟩ := List.mem_map.1 hx
        exact (hf i (List.mem_range.1 hi)).2
set_option maxRecDepth 100000 in
theorem cfg_of_shp {W : World} {n : Nat} {cs : List Value} (h : Shp Tryd.prog W n 23 cs) :
    ∃ c : Cfg, cs = [.int .i64 c.size, .int .i64 c.shift, .int .i64 c.window, .int .i64 c.margin, .int .i64 c.hold, .int .i64 c.quota, .int .i64 c.pin] ∧ i64ok c.size ∧ i64ok c.shift ∧ i64ok c.window ∧ i64ok c.margin ∧ i64ok c.hold ∧ i64ok c.quota ∧ i64ok c.pin := by
  obtain ⟨hl, n', hf⟩ := shp_struct Tryd.underlying23 h
  have e1 : Tryd.prog.cellsOf 3 = 1 := by kernel_rfl
  have e7 : Tryd.prog.cellsOf 23 = 7 := by kernel_rfl
  rw [e7] at hl
  match cs, hl with
  | [d0, d1, d2, d3, d4, d5, d6], _ =>
    have f0 := hf _ (List.mem_cons_self)
    have f1 := hf _ (List.mem_cons_of_mem _ List.mem_cons_self)
    have f2 := hf _ (List.mem_cons_of_mem _ (List.mem_cons_of_mem _ List.mem_cons_self))
    have f3 := hf _ (List.mem_cons_of_mem _ (List.mem_cons_of_mem _ (List.mem_cons_of_mem _ List.mem_cons_self)))
    have f4 := hf _ (List.mem_cons_of_mem _ (List.mem_cons_of_mem _ (List.mem_cons_of_mem _ (List.mem_cons_of_mem _ List.mem_cons_self))))
    have f5 := hf _ (List.mem_cons_of_mem _ (List.mem_cons_of_mem _ (List.mem_cons_of_mem _ (List.mem_cons_of_mem _ (List.mem_cons_of_mem _ List.mem_cons_self)))))
    have f6 := hf _ (List.mem_cons_of_mem _ (List.mem_cons_of_mem _ (List.mem_cons_of_mem _ (List.mem_cons_of_mem _ (List.mem_cons_of_mem _ (List.mem_cons_of_mem _ List.mem_cons_self))))))
    simp only [e1, List.drop_zero, List.drop_succ_cons, List.take_succ_cons, List.take_zero, List.take_nil] at f0 f1 f2 f3 f4 f5 f6
    obtain ⟨x0, h0, w0⟩ := shp_int Tryd.underlying3 f0
    obtain ⟨x1, h1, w1⟩ := shp_int Tryd.underlying3 f1
    obtain ⟨x2, h2, w2⟩ := shp_int Tryd.underlying3 f2
    obtain ⟨x3, h3, w3⟩ := shp_int Tryd.underlying3 f3
    obtain ⟨x4, h4, w4⟩ := shp_int Tryd.underlying3 f4
    obtain ⟨x5, h5, w5⟩ := shp_int Tryd.underlying3 f5
    obtain ⟨x6, h6, w6⟩ := shp_int Tryd.underlying3 f6
    simp only [List.cons.injEq, and_true] at h0 h1 h2 h3 h4 h5 h6
    subst h0 h1 h2 h3 h4 h5 h6
    exact ⟨⟨x0, x1, x2, x3, x4, x5, x6⟩, rfl, i64_bounds w0, i64_bounds w1, i64_bounds w2, i64_bounds w3, i64_bounds w4, i64_bounds w5, i64_bounds w6⟩
set_option maxRecDepth 100000 in
theorem pic_of_arg {W : World} {v : Value} (h : Arg Tryd.prog W 26 v) : ∃ p u, v = .agg (picCells p u) ∧ ItemsAt W u p.items ∧ PicFits p := by
  obtain ⟨cs, rfl, n, hs⟩ := arg_struct Tryd.underlying26 h
  obtain ⟨hl, n', hf⟩ := shp_struct Tryd.underlying26 hs
  have e10 : Tryd.prog.cellsOf 26 = 10 := by kernel_rfl
  have e7 : Tryd.prog.cellsOf 23 = 7 := by kernel_rfl
  have e1 : Tryd.prog.cellsOf 3 = 1 := by kernel_rfl
  have es : Tryd.prog.cellsOf 24 = 1 := by kernel_rfl
  rw [e10] at hl
  obtain ⟨l⟩ := cs
  match l, hl with
  | [d0, d1, d2, d3, d4, d5, d6, d7, d8, d9], _ =>
    have f0 := hf _ (List.mem_cons_self)
    have f1 := hf _ (List.mem_cons_of_mem _ List.mem_cons_self)
    have f2 := hf _ (List.mem_cons_of_mem _ (List.mem_cons_of_mem _ List.mem_cons_self))
    have f3 := hf _ (List.mem_cons_of_mem _ (List.mem_cons_of_mem _ (List.mem_cons_of_mem _ List.mem_cons_self)))
    simp only [e1, e7, es, List.drop_zero, List.drop_succ_cons, List.take_succ_cons, List.take_zero, List.take_nil] at f0 f1 f2 f3
    obtain ⟨c, hc, b0, b1, b2, b3, b4, b5, b6⟩ := cfg_of_shp f0
    obtain ⟨kind, hk, wk⟩ := shp_int Tryd.underlying3 f1
    obtain ⟨now, hn, wn⟩ := shp_int Tryd.underlying3 f2
    obtain ⟨v, items, hv, hi, hb, hlen⟩ := items_of_shp f3
    simp only [List.cons.injEq, and_true] at hc hk hn hv
    obtain ⟨rfl, rfl, rfl, rfl, rfl, rfl, rfl⟩ := hc
    subst hk hn hv
    exact ⟨⟨c, kind, now, items⟩, d9, rfl, hi, ⟨b0, b1, b2, b3, b4, b5, b6, i64_bounds wk, i64_bounds wn, hb, hlen⟩⟩
end Go.Proofs.YtggeppmiifkikaaDoor
