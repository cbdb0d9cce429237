/- A heap of keys: what orders its items, with the draws told. -/
import Derived.Test.YtbbdimlpofjlfaaGreatDoorQHp1
import Derived.Sort.Grow
import Derived.Shelf.GgSortFunc.InsertionK
import Derived.Test.YtbbdimlpofjlfaaGreatDoorQLays2
import Derived.Test.YtbbdimlpofjlfaaGreatDoorQHp4
import Derived.Test.YtbbdimlpofjlfaaGreatDoorQApp
import Derived.Test.YtbbdimlpofjlfaaGreatDoorQLfu1
import Derived.Shelf.SlSortCmp.NoneTotal
import Derived.Deep.DeepCutAuto
namespace Go.Proofs.YtbbdimlpofjlfaaGreatDoor
open Go Go.RowKit

/-- All is kept; and draws were not taken back. -/
structure KeepD (w w' : World) : Prop where
  keep : Keep w w'
  drawn : w.drawn ≤ w'.drawn
theorem KeepD.refl (w : World) : KeepD w w := ⟨Keep.refl w, Nat.le_refl _⟩
theorem KeepD.trans {a b c : World} (h : KeepD a b) (k : KeepD b c) : KeepD a c := ⟨h.keep.trans k.keep, Nat.le_trans h.drawn k.drawn⟩
theorem KeepD.alloc {w w' : World} {o : Obj} (h : KeepD w w') : KeepD w (w'.alloc o) := ⟨h.keep.alloc, h.drawn⟩
theorem KeepD.drewN {w w' : World} {n : Nat} (h : KeepD w w') : KeepD w (w'.drewN n) := ⟨h.keep.drewN, Nat.le_trans h.drawn (Nat.le_add_right _ _)⟩
theorem KeepD.grown {w w' : World} (h : KeepD w w') : ∃ q os, w' = Sort.grow (w.drewN q) os := by
  refine ⟨w'.drawn - w.drawn, w'.heap.extract w.heap.size w'.heap.size, ?_⟩
  obtain ⟨⟨h1, h2, h3, h4, h5⟩, h6⟩ := h
  obtain ⟨hp, tp, dr, os, out⟩ := w
  obtain ⟨hp', tp', dr', os', out'⟩ := w'
  dsimp only at h1 h2 h3 h4 h5 h6 ⊢
  subst h1 h2 h3
  unfold Sort.grow World.drewN
  dsimp only
  congr 1
  · apply Array.ext_getElem?
    intro i
    rw [Array.getElem?_append]
    by_cases hi : i < hp.size
    · rw [if_pos hi, h5 i _ (Array.getElem?_eq_getElem hi), Array.getElem?_eq_getElem hi]
    · rw [if_neg hi, Array.getElem?_extract]
      by_cases hj : i < hp'.size
      · rw [if_pos (by omega)]
        congr 1
        omega
      · rw [if_neg (by omega), Array.getElem?_eq_none (by omega)]
  · omega
set_option maxRecDepth 100000 in
theorem Hp_LessD (a1 a2 b1 b2 : Int) (d : Bool) (hd : decide (a1 < b1 ∨ (a1 = b1 ∧ a2 < b2)) = d) (w : World) :
    Calls Tryz.prog 253 #[.agg #[.int .i64 a1, .int .i64 a2], .agg #[.int .i64 b1, .int .i64 b2]] w fun r w' => r = .returned (.bool d) ∧ KeepD w w' := by
  have hK := hide (((KeepD.refl w).alloc (o := .cells #[.int .i64 a1, .int .i64 a2] 251)).alloc (o := .cells #[.int .i64 b1, .int .i64 b2] 251))
  have hc : (a1 < b1 ∧ d = true) ∨ (¬ a1 < b1 ∧ ¬ a1 = b1 ∧ d = false) ∨ (a1 = b1 ∧ a2 < b2 ∧ d = true) ∨ (a1 = b1 ∧ ¬ a2 < b2 ∧ d = false) := by
    rw [← hd]
    by_cases h1 : a1 < b1
    · exact .inl ⟨h1, decide_eq_true (.inl h1)⟩
    · by_cases h2 : a1 = b1
      · by_cases h3 : a2 < b2
        · exact .inr (.inr (.inl ⟨h2, h3, decide_eq_true (.inr ⟨h2, h3⟩)⟩))
        · exact .inr (.inr (.inr ⟨h2, h3, decide_eq_false (by omega)⟩))
      · exact .inr (.inl ⟨h1, h2, decide_eq_false (by omega)⟩)
  clear hd
  rcases hc with ⟨h1, rfl⟩ | ⟨h1, h2, rfl⟩ | ⟨rfl, h3, rfl⟩ | ⟨rfl, h3, rfl⟩
  · go_enter Tryz.func253, Tryz.ntmps253
    go_wp2
    go_ret
    exact ⟨rfl, hK.out⟩
  · have h2' : (a1 == b1) = false := beq_eq_false_iff_ne.2 h2
    go_enter Tryz.func253, Tryz.ntmps253
    go_wp2
    go_ret
    exact ⟨rfl, hK.out⟩
  · have h1 : ¬ a1 < a1 := by omega
    go_enter Tryz.func253, Tryz.ntmps253
    go_wp2
    go_ret
    exact ⟨rfl, hK.out⟩
  · have h1 : ¬ a1 < a1 := by omega
    go_enter Tryz.func253, Tryz.ntmps253
    go_wp2
    go_ret
    exact ⟨by first | rfl | simp; omega, hK.out⟩
set_option maxRecDepth 100000 in
set_option maxHeartbeats 1000000 in
theorem Hp_aheadD (x y : HE) (d : Bool) (hd : decide (hLt x y) = d) (w : World) :
    Calls Tryz.prog 232 #[heV x, heV y] w fun r w' => r = .returned (.bool d) ∧ KeepD w w' := by
  obtain ⟨k1, a1, a2, a3⟩ := x
  obtain ⟨k2, b1, b2, b3⟩ := y
  unfold hLt at hd
  unfold heV
  dsimp only at hd ⊢
  have hK := hide (((KeepD.refl w).alloc (o := .cells #[.string k1, .int .i64 a1, .int .i64 a2, .int .i64 a3] 326)).alloc (o := .cells #[.string k2, .int .i64 b1, .int .i64 b2, .int .i64 b3] 326))
  obtain ⟨e, he⟩ : ∃ e, decide (a1 < b1 ∨ (a1 = b1 ∧ a2 < b2)) = e := ⟨_, rfl⟩
  have cL := hide (fun w => Hp_LessD a1 a2 b1 b2 e he w)
  have hc : (e = true ∧ d = true) ∨ (e = false ∧ ((¬ a1 = b1 ∧ d = false) ∨ (a1 = b1 ∧ ¬ a2 = b2 ∧ d = false) ∨ (a1 = b1 ∧ a2 = b2 ∧ a3 < b3 ∧ d = true) ∨ (a1 = b1 ∧ a2 = b2 ∧ ¬ a3 < b3 ∧ d = false))) := by
    rw [← hd, ← he]
    by_cases h1 : a1 < b1 ∨ (a1 = b1 ∧ a2 < b2)
    · exact .inl ⟨decide_eq_true h1, decide_eq_true (by omega)⟩
    · refine .inr ⟨decide_eq_false h1, ?_⟩
      by_cases h2 : a1 = b1
      · by_cases h3 : a2 = b2
        · by_cases h4 : a3 < b3
          · exact .inr (.inr (.inl ⟨h2, h3, h4, decide_eq_true (by omega)⟩))
          · exact .inr (.inr (.inr ⟨h2, h3, h4, decide_eq_false (by omega)⟩))
        · exact .inr (.inl ⟨h2, h3, decide_eq_false (by omega)⟩)
      · exact .inl ⟨h2, decide_eq_false (by omega)⟩
  clear hd he
  rcases hc with ⟨rfl, rfl⟩ | ⟨rfl, ⟨h2, rfl⟩ | ⟨rfl, h3, rfl⟩ | ⟨rfl, rfl, h4, rfl⟩ | ⟨rfl, rfl, h4, rfl⟩⟩
  · go_enter Tryz.func232, Tryz.ntmps232
    go_wp2_with (go_at_call 253; (with_reducible refine (cL.out _).mono ?_); rintro r w1 ⟨rfl, k1⟩; have k1 := hide k1)
    go_ret
    exact ⟨rfl, hK.out.trans k1.out⟩
  · have h2' : (a1 == b1) = false := beq_eq_false_iff_ne.2 h2
    go_enter Tryz.func232, Tryz.ntmps232
    go_wp2_with (go_at_call 253; (with_reducible refine (cL.out _).mono ?_); rintro r w1 ⟨rfl, kk⟩; obtain ⟨⟨x0, x1, x2, x3⟩, ⟨y0, y1, y2, y3⟩⟩ := boxes4 kk.keep; have kk := hide kk)
    go_ret
    exact ⟨by first | rfl | simp; omega, hK.out.trans kk.out⟩
  · have h3' : (a2 == b2) = false := beq_eq_false_iff_ne.2 h3
    go_enter Tryz.func232, Tryz.ntmps232
    go_wp2_with (go_at_call 253; (with_reducible refine (cL.out _).mono ?_); rintro r w1 ⟨rfl, kk⟩; obtain ⟨⟨x0, x1, x2, x3⟩, ⟨y0, y1, y2, y3⟩⟩ := boxes4 kk.keep; have kk := hide kk)
    go_ret
    exact ⟨by first | rfl | simp; omega, hK.out.trans kk.out⟩
  · skip
    go_enter Tryz.func232, Tryz.ntmps232
    go_wp2_with (go_at_call 253; (with_reducible refine (cL.out _).mono ?_); rintro r w1 ⟨rfl, kk⟩; obtain ⟨⟨x0, x1, x2, x3⟩, ⟨y0, y1, y2, y3⟩⟩ := boxes4 kk.keep; have kk := hide kk)
    go_ret
    exact ⟨by first | rfl | simp; omega, hK.out.trans kk.out⟩
  · skip
    go_enter Tryz.func232, Tryz.ntmps232
    go_wp2_with (go_at_call 253; (with_reducible refine (cL.out _).mono ?_); rintro r w1 ⟨rfl, kk⟩; obtain ⟨⟨x0, x1, x2, x3⟩, ⟨y0, y1, y2, y3⟩⟩ := boxes4 kk.keep; have kk := hide kk)
    go_ret
    exact ⟨by first | rfl | simp; omega, hK.out.trans kk.out⟩
def hCmp (x y : HE) : Int := if hLt x y then -1 else if hLt y x then 1 else 0
set_option maxRecDepth 100000 in
set_option maxHeartbeats 1000000 in
theorem Hp_cmp (x y : HE) (w : World) :
    Calls Tryz.prog 231 #[heV x, heV y] w fun r w' => r = .returned (.int .i64 (hCmp x y)) ∧ KeepD w w' := by
  obtain ⟨d1, hd1⟩ : ∃ d, decide (hLt x y) = d := ⟨_, rfl⟩
  obtain ⟨d2, hd2⟩ : ∃ d, decide (hLt y x) = d := ⟨_, rfl⟩
  have c1 := hide (fun w => Hp_aheadD x y d1 hd1 w)
  have c2 := hide (fun w => Hp_aheadD y x d2 hd2 w)
  have hr : Hide (hCmp x y = if d1 = true then -1 else if d2 = true then 1 else 0) := ⟨by
    unfold hCmp
    rw [← hd1, ← hd2]
    simp only [decide_eq_true_eq]⟩
  obtain ⟨res, hres⟩ : ∃ r, hCmp x y = r := ⟨_, rfl⟩
  rw [hres] at hr ⊢
  clear hd1 hd2 hres
  obtain ⟨k1, a1, a2, a3⟩ := x
  obtain ⟨k2, b1, b2, b3⟩ := y
  unfold heV at c1 c2 ⊢
  dsimp only at c1 c2 ⊢
  have hK := hide (((KeepD.refl w).alloc (o := .cells #[.string k1, .int .i64 a1, .int .i64 a2, .int .i64 a3] 326)).alloc (o := .cells #[.string k2, .int .i64 b1, .int .i64 b2, .int .i64 b3] 326))
  cases d1 with
  | true =>
    have hr := hide (hr.out.trans (if_pos rfl))
    go_enter Tryz.func231, Tryz.ntmps231
    go_wp2_with (go_at_call 232; (with_reducible refine (c1.out _).mono ?_); rintro r w1 ⟨rfl, kk⟩; have kk := hide kk)
    go_ret
    exact ⟨by rw [hr.out]; first | rfl | simp, hK.out.trans kk.out⟩
  | false =>
    cases d2 with
    | true =>
      have hr := hide ((hr.out.trans (if_neg (by decide))).trans (if_pos rfl))
      go_enter Tryz.func231, Tryz.ntmps231
      go_wp2_with (first
        | (go_at_call 232; (with_reducible refine (c1.out _).mono ?_); rintro r w1 ⟨rfl, kk⟩; obtain ⟨⟨x0, x1, x2, x3⟩, ⟨y0, y1, y2, y3⟩⟩ := boxes4 kk.keep; have kk := hide kk)
        | (go_at_call 232; (with_reducible refine (c2.out _).mono ?_); rintro r w2 ⟨rfl, k2⟩; have k2 := hide k2))
      go_ret
      exact ⟨by rw [hr.out]; first | rfl | simp, (hK.out.trans kk.out).trans k2.out⟩
    | false =>
      have hr := hide ((hr.out.trans (if_neg (by decide))).trans (if_neg (by decide)))
      go_enter Tryz.func231, Tryz.ntmps231
      go_wp2_with (first
        | (go_at_call 232; (with_reducible refine (c1.out _).mono ?_); rintro r w1 ⟨rfl, kk⟩; obtain ⟨⟨x0, x1, x2, x3⟩, ⟨y0, y1, y2, y3⟩⟩ := boxes4 kk.keep; have kk := hide kk)
        | (go_at_call 232; (with_reducible refine (c2.out _).mono ?_); rintro r w2 ⟨rfl, k2⟩; have k2 := hide k2))
      go_ret
      exact ⟨by rw [hr.out]; first | rfl | simp, (hK.out.trans kk.out).trans k2.out⟩
/-! ### One sorted order -/
theorem sorted_one : ∀ (m l : List HE), l.Perm m → HSorted m → l.Pairwise (fun x y => ¬ hLt y x) → l = m
  | [], l, hp, _, _ => List.Perm.eq_nil hp
  | y :: m, l, hp, hs, hl => by
    rw [HSorted, List.pairwise_cons] at hs
    cases l with
    | nil => exact absurd (hp.symm.eq_nil) (by simp)
    | cons x l =>
      rw [List.pairwise_cons] at hl
      by_cases hxy : x = y
      · subst hxy
        rw [sorted_one m l (List.perm_cons x |>.1 hp) hs.2 hl.2]
      · exfalso
        have h1 : y ∈ x :: l := hp.symm.mem_iff.1 (by simp)
        have h2 : x ∈ y :: m := hp.mem_iff.1 (by simp)
        rcases List.mem_cons.1 h1 with e | h1
        · exact hxy e.symm
        · rcases List.mem_cons.1 h2 with e | h2
          · exact hxy e
          · exact hl.1 y h1 (hs.1 x h2)
end Go.Proofs.YtbbdimlpofjlfaaGreatDoor
/- A heap of keys: a row of items that was sorted. -/
namespace Go.Proofs.YtbbdimlpofjlfaaGreatDoor
open Go Go.RowKit

instance : Inhabited HE := ⟨he0⟩
def heEnc (x : HE) : List Value := [.string x.key, .int .i64 x.one, .int .i64 x.two, .int .i64 x.came]
theorem heFlat_size (es : List HE) : (Sort.flatK heEnc 4 es.toArray).size = es.length * 4 := by rw [Sort.size_flatK, List.size_toArray]
theorem heFlat_get (es : List HE) (t : Nat) (h : t < es.length * 4) : (heCells es)[t]? = some (Sort.flatK heEnc 4 es.toArray)[t]! := by
  rw [Sort.get_flatK _ _ _ _ (by rw [List.size_toArray]; exact h)]
  obtain ⟨i, c, hc, rfl⟩ : ∃ i c, c < 4 ∧ t = i * 4 + c := ⟨t / 4, t % 4, Nat.mod_lt _ (by omega), by omega⟩
  have hi : i < es.length := by omega
  rw [show (i * 4 + c) / 4 = i by omega, show (i * 4 + c) % 4 = c by omega]
  obtain ⟨g0, g1, g2, g3⟩ := heCells_get es i hi
  have e : es.toArray[i]! = hG es i := by
    rw [getElem!_pos es.toArray i (by rw [List.size_toArray]; exact hi)]
    unfold hG
    rw [List.getD_eq_getElem?_getD, List.getElem?_eq_getElem hi]
    rfl
  rw [e]
  match c, hc with
  | 0, _ => exact g0
  | 1, _ => exact g1
  | 2, _ => exact g2
  | 3, _ => exact g3
/-- Sorted: the row holds other items; all else is kept. -/
theorem Holds.sortedRow {g w : World} {F : List SProp} {e : TypeId} {q cap : Nat} {es es' : List HE} (h : Holds g w (OwnRow e 4 (.slice (some ⟨q, 0, none⟩) es.length cap) es.length (heCells es) :: F)) (hl : es'.length = es.length) (m : Nat) (os : Array Obj) :
    Holds g (sortWorldK heEnc 4 w q 0 m es'.toArray os) (OwnRow e 4 (.slice (some ⟨q, 0, none⟩) es'.length cap) es'.length (heCells es') :: F) := by
  obtain ⟨cur, hc, hp⟩ := h.rowPts
  have hb := hp.block
  have hlt := hp.lt
  have hsz : ∀ (i : Nat), i < w.heap.size → (sortWorldK heEnc 4 w q 0 m es'.toArray os).heap[i]? = (w.heap.modify q (Sort.onCells (Sort.putCells id 0 (Sort.flatK heEnc 4 es'.toArray))))[i]? := fun i hi => by
    show ((w.heap.modify q (Sort.onCells (Sort.putCells id 0 (Sort.flatK heEnc 4 es'.toArray)))) ++ os)[i]? = _
    rw [Array.getElem?_append, if_pos (by rw [Array.size_modify]; exact hi)]
  have H := hp.turn (w' := sortWorldK heEnc 4 w q 0 m es'.toArray os) (o' := .cells (Sort.putCells id 0 (Sort.flatK heEnc 4 es'.toArray) cur) e (0, 0)) rfl rfl rfl (by
      show w.heap.size ≤ ((w.heap.modify q _) ++ os).size
      rw [Array.size_append, Array.size_modify]
      omega) (by
      rw [hsz q hlt, Array.getElem?_modify, if_pos rfl, hb]
      rfl) (fun i p hi hpi => by
      have hil : i < w.heap.size := by
        rcases Nat.lt_or_ge i w.heap.size with h | h
        · exact h
        · rw [Array.getElem?_eq_none h] at hpi; cases hpi
      rw [hsz i hil, Array.getElem?_modify, if_neg (fun e => hi e.symm)]
      exact hpi)
  refine Holds.ptsRow ?_ H
  obtain ⟨c1, c2, c3, c4, c5⟩ := hc
  have hm : (Sort.putCells id 0 (Sort.flatK heEnc 4 es'.toArray) cur).size = cur.size := Array.size_mapIdx
  refine ⟨heCells_length es', by rw [hl]; exact c2, c3, by rw [hm]; exact c4, ?_⟩
  apply List.ext_getElem?
  intro t
  by_cases ht : t < es'.length * 4
  · rw [List.getElem?_take_of_lt ht, Array.getElem?_toList, heFlat_get es' t ht]
    show (cur.mapIdx _)[t]? = _
    rw [Array.getElem?_mapIdx, Array.getElem?_eq_getElem (by rw [c4]; have := Nat.mul_le_mul_right 4 c2; omega)]
    show some (if 0 ≤ t ∧ t < 0 + (Sort.flatK heEnc 4 es'.toArray).size then id (Sort.flatK heEnc 4 es'.toArray)[t - 0]! else _) = _
    rw [if_pos ⟨Nat.zero_le _, by rw [heFlat_size]; omega⟩]
    rfl
  · rw [List.getElem?_eq_none (by rw [List.length_take]; omega), List.getElem?_eq_none (by rw [heCells_length]; omega)]
end Go.Proofs.YtbbdimlpofjlfaaGreatDoor
/- A heap of keys: slices.Clone and slices.SortFunc at its items. -/
namespace Go.Proofs.YtbbdimlpofjlfaaGreatDoor
open Go Go.RowKit

/-- A row that was made anew. -/
theorem Holds.freshRow {g w w' : World} {F : List SProp} {e : TypeId} {size n : Nat} {v : Value} {xs : List Value} (h : Holds g w F) (hb : Below w.heap.size w w') (ho : w'.ownsRow w.heap.size e size v n xs) : Holds g w' (OwnRow e size v n xs :: F) := by
  have k : Keep w w' := ⟨hb.os, hb.output, hb.tape, hb.size, fun i o hi => by
    have hl : i < w.heap.size := by
      rcases Nat.lt_or_ge i w.heap.size with h | h
      · exact h
      · rw [Array.getElem?_eq_none h] at hi; cases hi
    rw [hb.block i hl]; exact hi⟩
  have hk := h.keep k
  obtain ⟨hx, ho⟩ := ho
  rcases ho with ⟨rfl, rfl⟩ | ⟨q, cap, cur, rfl, hq, hc, h1, h2, h3, h4⟩
  · have : xs = [] := List.length_eq_zero_iff.1 (by rw [hx]; omega)
    subst this
    exact hk.ownNil e size
  · obtain ⟨_, _, _, z0, x, s, f⟩ := h
    obtain ⟨a, b, c, z, _⟩ := hk
    have hn : x q = none := by
      cases hxq : x q with
      | none => rfl
      | some o =>
        have := (f q o hxq).2
        rw [Array.getElem?_eq_none hq] at this
        cases this
    refine ⟨a, b, c, z, Frag.add (fun i => if i = q then some (.cells cur e (0, 0)) else none) x, ⟨_, x, fun i => ?_, rfl, ⟨hx, .inr ⟨q, cap, cur, rfl, h1, h2, h3, h4, fun _ => rfl⟩⟩, s⟩, fun i p hp => ?_⟩
    · by_cases hi : i = q
      · subst hi; exact .inr hn
      · exact .inl (if_neg hi)
    · by_cases hi : i = q
      · subst hi
        rw [Frag.add_some (o := .cells cur e (0, 0)) (by simp)] at hp
        exact ⟨Nat.le_trans z0.1 hq, by rw [hc]; exact hp⟩
      · rw [Frag.add_none (by simp [hi])] at hp
        have := f i p hp
        exact ⟨this.1, k.block i p this.2⟩
theorem heCells_one {es : List HE} : ∀ u ∈ heCells es, u.oneCell' = true := fun u hu => by
  unfold heCells at hu
  obtain ⟨x, _, hx⟩ := List.mem_flatMap.1 hu
  simp only [List.mem_cons, List.not_mem_nil, or_false] at hx
  rcases hx with rfl | rfl | rfl | rfl <;> rfl
set_option maxRecDepth 100000
set_option maxHeartbeats 1000000
theorem Hp_clone {g w : World} {F : List SProp} {v : Value} {es : List HE} (h : Holds g w (OwnRow 326 4 v es.length (heCells es) :: F)) (hl : es.length ≤ 1000000) :
    Calls Tryz.prog 229 #[v] w fun r w' => ∃ v', r = .returned v' ∧ Holds g w' (OwnRow 326 4 v' es.length (heCells es) :: OwnRow 326 4 v es.length (heCells es) :: F) := by
  rcases h.rowShape with ⟨rfl, h0, hnil⟩ | ⟨q, cap, rfl⟩
  · refine (AnyE.slices_Clone_nil Tryz.clone 0 0 w).mono ?_
    rintro r w' ⟨rfl, rfl⟩
    refine ⟨_, rfl, ?_⟩
    rw [h0, hnil]
    have := h
    rw [h0, hnil] at this
    exact this.ownNil 326 4
  · obtain ⟨ii, hi, hz0, hz1, hz2⟩ := info_parts infoHItem
    refine (AnyE.slices_Clone Tryz.clone ii (.agg #[.string ⟨#[]⟩, .int .i64 0, .int .i64 0, .int .i64 0]) 4 40 hi hz0 hz1 hz2 rfl (by omega) Tryz.sizeOf326 q 0 es.length cap (heCells es) w (heCells_length es) (by simp only [maxLen]; omega) (by omega) (fun j u hu => by rw [Nat.zero_add]; exact h.rowCell hu) heCells_one).mono ?_
    rintro r w' ⟨v', rfl, ho, _, hb⟩
    exact ⟨v', rfl, h.freshRow hb ho⟩
theorem hCmp_swo : Sort.SWO (ltOf hCmp) := by
  have e : ∀ x y, ltOf hCmp x y = decide (hLt x y) := fun x y => by
    unfold ltOf hCmp
    by_cases h : hLt x y
    · rw [if_pos h, decide_eq_true h]; rfl
    · rw [if_neg h, decide_eq_false h]
      by_cases h2 : hLt y x
      · rw [if_pos h2]; rfl
      · rw [if_neg h2]; rfl
  refine ⟨fun x => ?_, fun x y z h1 h2 => ?_, fun x y z h1 h2 => ?_⟩
  · rw [e]; exact decide_eq_false (hLt_irrefl x)
  · rw [e] at h1 h2 ⊢
    exact decide_eq_true (hLt_trans (of_decide_eq_true h1) (of_decide_eq_true h2))
  · rw [e] at h1 h2 ⊢
    have h1 := of_decide_eq_false h1
    have h2 := of_decide_eq_false h2
    exact decide_eq_false (by unfold hLt at *; omega)
theorem hCmp_lt {x y : HE} (h : ltOf hCmp x y = false) : ¬ hLt x y := fun hh => by
  unfold ltOf hCmp at h
  rw [if_pos hh] at h
  cases h
theorem Hp_sortf {g w : World} {F : List SProp} {q cap : Nat} {es srt : List HE} (h : Holds g w (OwnRow 326 4 (.slice (some ⟨q, 0, none⟩) es.length cap) es.length (heCells es) :: F)) (hl : es.length ≤ 1000000) (hp : List.Perm es srt) (hs : HSorted srt) :
    Calls Tryz.prog 230 #[.slice (some ⟨q, 0, none⟩) es.length cap, .func (.func 231) #[] #[]] w fun r w' => r = .returned (.tuple #[]) ∧ Holds g w' (OwnRow 326 4 (.slice (some ⟨q, 0, none⟩) srt.length cap) srt.length (heCells srt) :: F) := by
  have hsz : es.toArray.size = es.length := List.size_toArray
  have hH : Sort.HoldsK heEnc 4 w q 0 es.toArray := fun j hj => by
    rw [heFlat_size] at hj
    rw [Nat.zero_add]
    exact ⟨h.rowCell (heFlat_get es j hj), h.rowFree⟩
  have c := AnyQ.slices_SortFunc Tryz.sortf 4 Tryz.isAgg326 Tryz.sizeOf326 heEnc (fun _ => rfl) (fun x v hv => by
      unfold heEnc at hv
      simp only [List.mem_cons, List.not_mem_nil, or_false] at hv
      rcases hv with rfl | rfl | rfl | rfl <;> rfl) hCmp hCmp_swo 231 #[] q 0 cap es.toArray w
    (enters_of Tryz.func231 (by kernel_rfl) rfl)
    (fun m os dk _ x y => by
      rw [Array.append_empty]
      refine (Hp_cmp x y _).mono ?_
      rintro r w' ⟨rfl, kd⟩
      obtain ⟨n, os', e⟩ := kd.grown
      exact ⟨rfl, n, os', e⟩) hH h.rowLt (by rw [hsz]; omega)
  rw [hsz] at c
  refine c.mono ?_
  rintro r w' ⟨rfl, d', n, os, ⟨hds, _, hperm⟩, hsort, rfl⟩
  refine ⟨rfl, ?_⟩
  rw [hsz] at hds
  have hx : ∀ d : Array HE, d.size = es.length → (d.extract 0 es.length).toList = d.toList := fun d hd => by
    rw [← hd, Array.extract_size]
  rw [hx d' hds, hx es.toArray hsz] at hperm
  have hd : d'.toList = srt := by
    refine sorted_one srt d'.toList (hperm.trans hp) hs ?_
    rw [List.pairwise_iff_getElem]
    intro i j hi hj hij
    have := hsort i j (Nat.zero_le _) hij (by rw [← hds]; simpa using hj)
    have := hCmp_lt this
    rw [getElem!_pos d' j (by simpa using hj), getElem!_pos d' i (by simpa using hi)] at this
    simpa using this
  have he : d' = srt.toArray := by rw [← hd]
  rw [he]
  exact h.sortedRow (by rw [hp.length_eq]) n os
end Go.Proofs.YtbbdimlpofjlfaaGreatDoor
/- A heap of keys: Order; lfu: Keys. -/
namespace Go.Proofs.YtbbdimlpofjlfaaGreatDoor
open Go Go.RowKit

set_option maxRecDepth 100000
set_option maxHeartbeats 2000000
theorem Hp_sortf_any {g w : World} {F : List SProp} {v : Value} {es srt : List HE} (h : Holds g w (OwnRow 326 4 v es.length (heCells es) :: F)) (hl : es.length ≤ 1000000) (hp : List.Perm es srt) (hs : HSorted srt) :
    Calls Tryz.prog 230 #[v, .func (.func 231) #[] #[]] w fun r w' => r = .returned (.tuple #[]) ∧ Holds g w' (OwnRow 326 4 v srt.length (heCells srt) :: F) := by
  rcases h.rowShape with ⟨rfl, h0, hnil⟩ | ⟨q, cap, rfl⟩
  · have he : es = [] := List.length_eq_zero_iff.1 h0
    subst he
    obtain rfl : srt = [] := hp.symm.eq_nil
    refine (AnyF.slices_SortFunc_none Tryz.sortf none 0 (.func (.func 231) #[] #[]) w).mono ?_
    rintro r w' ⟨rfl, rfl⟩
    exact ⟨rfl, h⟩
  · have hh := Hp_sortf h hl hp hs
    rw [← hp.length_eq] at hh ⊢
    exact hh
theorem Holds.oneStrH {g w : World} {F : List SProp} {q : Nat} {k : ByteArray} (h : Holds g w (pts q (.cells #[.string k] 9) :: F)) : Holds g w (OwnStrs (.slice (some ⟨q, 0, none⟩) 1 1) [k] :: F) :=
  h.ptsRow ⟨rfl, Nat.le_refl _, by simp only [maxLen]; omega, rfl, rfl⟩
theorem Hp_Order {g w : World} {b : Nat} {srt : List HE} {came : Int} {F : List SProp} (h : Holds g w (IsHeap b srt came :: F)) :
    Calls Tryz.prog 177 #[.pointer (some ⟨b, 0, none⟩)] w fun r w' => ∃ v, r = .returned v ∧ Holds g w' (OwnStrs v (hKeys srt) :: IsHeap b srt came :: F) := by
  obtain ⟨es, m, vl, mb, hok, hle, h⟩ := h.isHeap
  have c0 : w.cell? ⟨b, 0, none⟩ = some vl := Holds.cell h rfl
  have hlen := hok.perm.length_eq
  have hsle : srt.length ≤ 1000000 := by omega
  have cC := hide (Hp_clone (Holds.p1 h) hle)
  have cS := hide (fun (w' : World) (v : Value) (L : List SProp) (hw : Holds g w' (OwnRow 326 4 v es.length (heCells es) :: L)) => Hp_sortf_any hw hle hok.perm hok.sorted)
  obtain ⟨n, hn⟩ : ∃ n, srt.length = n := ⟨_, rfl⟩
  rw [hn] at cS
  replace hok := hide hok
  replace hle := hide hle
  replace hn := hide hn
  clear h
  go_enter Tryz.func177, Tryz.ntmps177
  go_wp2_with (first
    | (go_at_call 229; (with_reducible refine cC.out.mono ?_); rintro r w1 ⟨v1, rfl, h1⟩; have h1 := hide h1)
    | (go_at_call 230; (with_reducible refine (cS.out _ _ _ h1.out).mono ?_); rintro r w2 ⟨rfl, h2⟩; obtain ⟨ao, cap, rfl⟩ := rowForm h2.ownsRow; have h3 := hide (h2.ownNil 9 1)))
  go_loopg [4, 16] (n) (fun c v x wr => ∃ j, Hide (n - j = c) ∧ j ≤ n ∧ x = .int .i64 (j : Nat) ∧ Holds g wr (OwnStrs v (hKeys (srt.take j)) :: OwnRow 326 4 (.slice ao n cap) n (heCells srt) :: OwnRow 326 4 vl es.length (heCells es) :: pts b (.cells #[vl, .map (some mb), .int .i64 came] 321) :: OwnMap mb m :: F))
  case atStart => exact ⟨0, ⟨rfl⟩, Nat.zero_le _, rfl, by rw [List.take_zero]; exact h3.out⟩
  case round =>
    clear h1 h3 c0
    obtain ⟨j, hcj, hj, rfl, hh⟩ := hrel
    have hsl := hsle
    by_cases hlt : j < n
    · have hlt' : (j : Int) < n := by omega
      have e1 : IntKind.i64.wrap ((j : Int) + 1) = ((j + 1 : Nat) : Int) := by rw [IntWalk.i64_in _ (by have := hn.out; omega)]; omega
      rcases (Holds.p1 hh).rowShape with ⟨_, h0, _⟩ | ⟨q, cap2, hv⟩
      · omega
      · cases hv
        obtain ⟨g0, g1, g2, g3⟩ := heCells_get srt j (by rw [hn.out]; exact hlt)
        obtain ⟨x, hx⟩ : ∃ x, hG srt j = x := ⟨_, rfl⟩
        rw [hx] at g0 g1 g2 g3
        have y0 := (Holds.p1 hh).rowCell g0
        have y1 := (Holds.p1 hh).rowCell g1
        have y2 := (Holds.p1 hh).rowCell g2
        have y3 := (Holds.p1 hh).rowCell g3
        have hget : srt[j]? = some x := by
          rw [List.getElem?_eq_getElem (by rw [hn.out]; exact hlt), ← hx]
          unfold hG
          rw [List.getD_eq_getElem?_getD, List.getElem?_eq_getElem (by rw [hn.out]; exact hlt)]
          rfl
        have htk : Hide (hKeys (srt.take j) ++ [x.key] = hKeys (srt.take (j + 1))) := ⟨by
          rw [List.take_add_one, hget]
          unfold hKeys
          rw [List.map_append]
          rfl⟩
        have hrl : Hide ((hKeys (srt.take j)).length + [x.key].length ≤ 2000000) := ⟨by
          unfold hKeys
          rw [List.length_map, List.length_take, List.length_singleton]
          have := hn.out
          omega⟩
        obtain ⟨k, a1, a2, a3⟩ := x
        dsimp only at y0 y1 y2 y3 htk hrl
        have HA := hide (Holds.alloc' (o := .cells #[.string k, .int .i64 a1, .int .i64 a2, .int .i64 a3] 326) hh)
        have HP := Holds.p1 (Holds.oneStrH (HA.out.alloc (o := .cells #[.string k] 9)))
        simp only [World.size_alloc] at HP
        replace HP := hide HP
        clear hx hget g0 g1 g2 g3 hsl
        have hh := hide hh
        go_wp2_with (at_builtin; refine wpList_append_strs rfl _ _ rfl HP.out hrl.out rfl rfl ?_; intro v5 w5 h5; rw [htk.out] at h5; have h5 := hide h5)
        go_roundg (n - (j + 1))
        case measure => rw [← hcj.out]; omega
        case rel => exact ⟨j + 1, ⟨rfl⟩, by omega, rfl, h5.out⟩
    · obtain rfl : j = n := by omega
      have hlt' : ¬ (j : Int) < j := by omega
      have hh := hide hh
      clear hsl
      go_wp2
      go_ret
      refine ⟨_, rfl, ?_⟩
      have H := hh.out.p1.drop
      rw [← hn.out, List.take_length] at H
      refine (Holds.toHeap (b := b) (mb := mb) (vl := vl) (es := es) (m := m) hok.out hle.out ?_).p1
      unfold HpRaw
      exact H.p3.p2.p3
theorem Lfu_Keys {g w : World} {b : Nat} {s : Lfu} {F : List SProp} (h : Holds g w (IsLfu b s :: F)) :
    Calls Tryz.prog 89 #[.pointer (some ⟨b, 0, none⟩)] w fun r w' => ∃ v, r = .returned v ∧ Holds g w' (OwnStrs v (hKeys s.srt) :: IsLfu b s :: F) := by
  obtain ⟨hb, ok, hraw⟩ := h.isLfu
  unfold LfuRaw at hraw
  have c3 := Holds.cell (off := 3) hraw rfl
  have cO := hide (Hp_Order (Holds.p1 hraw))
  clear h hraw
  go_enter Tryz.func89, Tryz.ntmps89
  go_wp2_with (go_at_call 177; (with_reducible refine cO.out.mono ?_); rintro r w1 ⟨v1, rfl, h1⟩; have h1 := hide h1)
  go_ret
  exact ⟨_, rfl, (Holds.toLfu ok h1.out.p1.p2).p1⟩
end Go.Proofs.YtbbdimlpofjlfaaGreatDoor
