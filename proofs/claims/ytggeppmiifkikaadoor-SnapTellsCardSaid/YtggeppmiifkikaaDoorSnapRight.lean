/- The contract of snap.Right. -/
import Derived.Test.YtggeppmiifkikaaDoorSnapFits
import Derived.Test.YtggeppmiifkikaaDoorMap
namespace Go.Proofs.YtggeppmiifkikaaDoor
open Go Go.RowKit

/-- The slice v reads as the items l. -/
def ItemsAt (w : World) (v : Value) (l : List It) : Prop :=
  ((∃ ao cap, v = .slice ao 0 cap) ∧ l = []) ∨ ∃ b off cap, v = .slice (some ⟨b, off, none⟩) l.length cap ∧ l.length ≤ cap ∧ cap ≤ maxLen ∧
    ∀ j x, l[j]? = some x → w.cell? ⟨b, off + j * 3, none⟩ = some (.string x.key) ∧ w.cell? ⟨b, off + j * 3 + 1, none⟩ = some (.string x.val) ∧ w.cell? ⟨b, off + j * 3 + 1 + 1, none⟩ = some (.int .i64 x.dl)
theorem ItemsAt.keep {w w' : World} {v : Value} {l : List It} (h : ItemsAt w v l) (k : Keep w w') : ItemsAt w' v l := by
  rcases h with h | ⟨b, off, cap, h1, h2, h3, h4⟩
  · exact .inl h
  · exact .inr ⟨b, off, cap, h1, h2, h3, fun j x hx => ⟨k.cell (h4 j x hx).1, k.cell (h4 j x hx).2.1, k.cell (h4 j x hx).2.2⟩⟩
theorem ItemsAt.shape {w : World} {v : Value} {l : List It} (h : ItemsAt w v l) : ∃ ao cap, v = .slice ao l.length cap := by
  rcases h with ⟨⟨_, _, rfl⟩, rfl⟩ | ⟨b, off, cap, rfl, _⟩
  · exact ⟨_, _, rfl⟩
  · exact ⟨_, _, rfl⟩
def picCells (p : Pic) (v : Value) : Array Value := #[.int .i64 p.c.size, .int .i64 p.c.shift, .int .i64 p.c.window, .int .i64 p.c.margin, .int .i64 p.c.hold, .int .i64 p.c.quota, .int .i64 p.c.pin, .int .i64 p.kind, .int .i64 p.now, v]

section
variable {p : Pic}
theorem cfgE_ne (h : cfgC p.c ≠ 0) : cfgE p.c = .fault tConfig ⟨#[]⟩ (.no (cfgC p.c)) := if_neg h
theorem picE_cfg (h : cfgC p.c ≠ 0) : picE p = .fault tSnap ⟨#[]⟩ (cfgE p.c) := by
  unfold picE picE0
  rw [if_pos h, cfgE_ne h]
  rfl
theorem picE_kind (h : cfgC p.c = 0) (h1 : ¬ (0 ≤ p.kind ∧ p.kind ≤ 6)) : picE p = .fault tSnap ⟨#[]⟩ (.no 7) := by
  unfold picE picE0
  rw [if_neg (by omega), if_pos (show ¬ inR p.kind 0 6 from h1)]
  rfl
theorem picE_now (h : cfgC p.c = 0) (h1 : 0 ≤ p.kind ∧ p.kind ≤ 6) (h2 : ¬ ((0 ≤ p.now ∧ p.now ≤ 1099511627776) ∧ (p.items.length : Int) ≤ p.c.size)) : picE p = .fault tSnap ⟨#[]⟩ (.no 1) := by
  unfold picE picE0
  rw [if_neg (by omega), if_neg (fun hn : ¬ inR p.kind 0 6 => hn h1), if_pos (show ¬ (inR p.now 0 1099511627776 ∧ (p.items.length : Int) ≤ p.c.size) from h2)]
  rfl
theorem picE_rest (h : cfgC p.c = 0) (h1 : 0 ≤ p.kind ∧ p.kind ≤ 6) (h2 : (0 ≤ p.now ∧ p.now ≤ 1099511627776) ∧ (p.items.length : Int) ≤ p.c.size) : picE p = wrapE (restE p) := by
  unfold picE picE0
  rw [if_neg (by omega), if_neg (fun hn : ¬ inR p.kind 0 6 => hn h1), if_neg (fun hn : ¬ (inR p.now 0 1099511627776 ∧ (p.items.length : Int) ≤ p.c.size) => hn h2)]
end
theorem firstE_at : ∀ (l : List It) (j : Nat) (x : It), l[j]? = some x → (∀ i y, i < j → l[i]? = some y → itC y = 0) → itC x ≠ 0 → firstE l = .fault tItem x.key (.no (itC x))
  | [], _, _, h, _, _ => by simp at h
  | y :: l, 0, x, h, _, hx => by
    obtain rfl : y = x := by simpa using h
    rw [firstE, if_neg hx, itE, if_neg hx]
  | y :: l, j + 1, x, h, hy, hx => by
    rw [firstE, if_pos (hy 0 y (by omega) (by simp))]
    exact firstE_at l j x (by simpa using h) (fun i z hi hz => hy (i + 1) z (by omega) (by simpa using hz)) hx
theorem firstE_none : ∀ (l : List It), (∀ (i : Nat) (y : It), l[i]? = some y → itC y = 0) → firstE l = .nil
  | [], _ => rfl
  | y :: l, h => by
    rw [firstE, if_pos (h 0 y (by simp))]
    exact firstE_none l fun i z hz => h (i + 1) z (by simpa using hz)
theorem any_take_succ {α : Type} (f : α → Bool) (l : List α) (j : Nat) (x : α) (h : l[j]? = some x) : (l.take (j + 1)).any f = ((l.take j).any f || f x) := by
  rw [List.take_add_one, h]
  simp
theorem hasKey_take_succ (l : List It) (j : Nat) (x : It) (h : l[j]? = some x) (k : ByteArray) : hasKey (l.take (j + 1)) k = (hasKey (l.take j) k || decide (x.key = k)) := any_take_succ _ l j x h
theorem zeroBool (w : World) : (zeroValue 4).run Tryd.prog w = .ok (.bool false) w := by kernel_rfl
theorem has_put (l : Assoc) (k c : ByteArray) (v : Value) : (l.put k v).has c = (l.has c || decide (k = c)) := by
  unfold Assoc.put
  by_cases h : l.has k = true
  · rw [if_pos h]
    unfold Assoc.has at h ⊢
    rw [List.any_map]
    by_cases hk : k = c
    · subst hk
      rw [h]
      simp only [decide_true, Bool.or_true, List.any_eq_true] at h ⊢
      obtain ⟨p, hp, h2⟩ := h
      exact ⟨p, hp, by simp at h2; simp [h2]⟩
    · rw [decide_eq_false hk, Bool.or_false]
      congr 1
      funext p
      by_cases hp : p.1 = k
      · simp [hp, hk]
      · simp [hp]
  · rw [if_neg h]
    simp [Assoc.has]
theorem get_cons (p : ByteArray × Value) (l : Assoc) (c : ByteArray) : Assoc.get (p :: l) c = if p.1 = c then some p.2 else Assoc.get l c := by
  unfold Assoc.get
  rw [List.find?_cons]
  by_cases h : p.1 = c <;> simp [h]
theorem get_append (l m : Assoc) (c : ByteArray) : Assoc.get (l ++ m) c = match Assoc.get l c with | some v => some v | none => Assoc.get m c := by
  induction l with
  | nil => rfl
  | cons p l ih => rw [List.cons_append, get_cons, get_cons, ih]; split <;> rfl
theorem get_none {l : Assoc} {c : ByteArray} (h : l.has c = false) : l.get c = none := by
  have := Assoc.get_has l c
  rw [h] at this
  simpa using this
theorem get_put (l : Assoc) (k c : ByteArray) (v : Value) : (l.put k v).get c = if k = c then some v else l.get c := by
  unfold Assoc.put
  by_cases h : l.has k = true
  · rw [if_pos h]
    induction l with
    | nil => simp [Assoc.has] at h
    | cons p l ih =>
      rw [List.map_cons, get_cons, get_cons]
      have hne : k ≠ c → Assoc.get (l.map fun p => if p.1 = k then (k, v) else p) c = Assoc.get l c := fun hk => by
        clear ih h
        induction l with
        | nil => rfl
        | cons q l ih =>
          rw [List.map_cons, get_cons, get_cons, ih]
          by_cases hq : q.1 = k
          · rw [if_pos hq, if_neg hk, if_neg (fun e => hk (hq.symm.trans e))]
          · rw [if_neg hq]
      by_cases hk : k = c
      · rw [if_pos hk]
        by_cases hp : p.1 = k
        · rw [if_pos hp, if_pos hk]
        · rw [if_neg hp, if_neg (fun e => hp (e.trans hk.symm)), ih (by simpa [Assoc.has, hp] using h), if_pos hk]
      · rw [if_neg hk, hne hk]
        by_cases hp : p.1 = k
        · rw [if_pos hp, if_neg hk, if_neg (fun e => hk (hp.symm.trans e))]
        · rw [if_neg hp]
  · rw [if_neg h, get_append]
    by_cases hk : k = c
    · subst hk
      rw [get_none (by simpa using h), get_cons, if_pos rfl, if_pos rfl]
    · rw [get_cons, if_neg hk, if_neg hk]
      cases Assoc.get l c <;> rfl
theorem pic_cells {g w : World} {b : Nat} {p : Pic} {v : Value} {t : TypeId} {fz : Nat × Nat} {F : List SProp} (h : Holds g w (pts b (.cells (picCells p v) t fz) :: F)) :
    w.cell? ⟨b, 0, none⟩ = some (.int .i64 p.c.size) ∧ w.cell? ⟨b, 7, none⟩ = some (.int .i64 p.kind) ∧ w.cell? ⟨b, 8, none⟩ = some (.int .i64 p.now) ∧ w.cell? ⟨b, 9, none⟩ = some v :=
  ⟨h.cell rfl, h.cell rfl, h.cell rfl, h.cell rfl⟩
theorem rest_at {p : Pic} {j : Nat} {x : It} (h : p.items[j]? = some x) (h0 : ∀ i y, i < j → p.items[i]? = some y → itC y = 0) (hx : itC x ≠ 0) : wrapE (restE p) = .fault tSnap ⟨#[]⟩ (itE x) := by
  have e := firstE_at p.items j x h h0 hx
  unfold restE
  rw [e, if_pos (show (EV.fault tItem x.key (.no (itC x))).isNil = false from rfl), itE, if_neg hx]
  rfl
theorem rest_over {p : Pic} (h0 : ∀ (i : Nat) (y : It), p.items[i]? = some y → itC y = 0) (h : p.items.any (overI p.now) = true) : wrapE (restE p) = .fault tSnap ⟨#[]⟩ (.no 11) := by
  unfold restE
  rw [firstE_none _ h0, if_neg (by simp [EV.isNil]), if_pos h]
  rfl
theorem rest_twice {p : Pic} (h0 : ∀ (i : Nat) (y : It), p.items[i]? = some y → itC y = 0) (h : p.items.any (overI p.now) = false) (h1 : twiceN p.items p.items.length = true) : wrapE (restE p) = .fault tSnap ⟨#[]⟩ (.no 10) := by
  unfold restE
  rw [firstE_none _ h0, if_neg (by simp [EV.isNil]), if_neg (by simp [h]), if_pos h1]
  rfl
theorem rest_fine {p : Pic} (h0 : ∀ (i : Nat) (y : It), p.items[i]? = some y → itC y = 0) (h : p.items.any (overI p.now) = false) (h1 : twiceN p.items p.items.length = false) : wrapE (restE p) = .nil := by
  unfold restE
  rw [firstE_none _ h0, if_neg (by simp [EV.isNil]), if_neg (by simp [h]), if_neg (by simp [h1])]
  rfl
set_option maxRecDepth 100000 in
set_option maxHeartbeats 8000000 in
theorem Snap_Right_early (p : Pic) (v : Value) (w : World) (hv : ItemsAt w v p.items)
    (h : cfgC p.c ≠ 0 ∨ (cfgC p.c = 0 ∧ ¬ (0 ≤ p.kind ∧ p.kind ≤ 6)) ∨ (cfgC p.c = 0 ∧ (0 ≤ p.kind ∧ p.kind ≤ 6) ∧ ¬ (0 ≤ p.now ∧ p.now ≤ 1099511627776)) ∨ (cfgC p.c = 0 ∧ (0 ≤ p.kind ∧ p.kind ≤ 6) ∧ (0 ≤ p.now ∧ p.now ≤ 1099511627776) ∧ p.c.size < p.items.length)) :
    Calls Tryd.prog 17 #[.agg (picCells p v)] w fun r w' => ∃ u, r = .returned u ∧ Keep w w' ∧ ErrAt w' (picE p) u := by
  obtain ⟨ao, cap, rfl⟩ := hv.shape
  clear hv
  have hF : ∀ w, Calls Tryd.prog 18 #[.agg #[.int .i64 p.c.size, .int .i64 p.c.shift, .int .i64 p.c.window, .int .i64 p.c.margin, .int .i64 p.c.hold, .int .i64 p.c.quota, .int .i64 p.c.pin]] w fun r w' => ∃ v, r = .returned v ∧ Keep w w' ∧ ErrAt w' (cfgE p.c) v := Snap_Fits p.c
  have hF := hide hF
  unfold picCells
  have h0 := hide ((Holds.start w).alloc (o := .cells (picCells p (.slice ao p.items.length cap)) 26))
  rcases h with h | ⟨h, h1⟩ | ⟨h, h1, h2⟩ | ⟨h, h1, h2, h3⟩
  · rw [picE_cfg h, cfgE_ne h]
    rw [cfgE_ne h] at hF
    have h := hide h
    go_enter Tryd.func17, Tryd.ntmps17
    go_wp2_with (first
      | (go_at_call 18; (with_reducible refine (hF.out _).mono ?_); rintro r w1 ⟨v1, rfl, hk, he⟩; have hk := hide hk; have he1 := he; obtain ⟨bf, ve, rfl, _⟩ := he1; have he := hide he)
      | (go_at_call 33; (with_reducible refine (Snap_fault _ _ _ _ _ he.out).mono ?_); rintro r w2 ⟨v2, rfl, hk2, he2⟩; have hk2 := hide hk2; have he2 := hide he2))
    go_ret
    exact ⟨v2, rfl, h0.out.drop.toKeep.trans (hk.out.trans hk2.out), he2.out⟩
  · rw [picE_kind h h1]
    rw [cfgE, if_pos h] at hF
    have h := hide h
    have h1 := hide h1
    go_enter Tryd.func17, Tryd.ntmps17
    go_wp2_with (first
      | (go_at_call 18; (with_reducible refine (hF.out _).mono ?_); rintro r w1 ⟨v1, rfl, hk, rfl⟩; obtain ⟨c0, c7, c8, c9⟩ := pic_cells (h0.out.keep hk); have hk := hide hk)
      | (go_at_call 39; (with_reducible refine (In_f _ _ _ h1.out _).mono ?_); rintro r w' ⟨rfl, rfl⟩)
      | (go_at_call 33; (with_reducible refine (Snap_fault_no _ _ _).mono ?_); rintro r w2 ⟨v2, rfl, hk2, he2⟩; have hk2 := hide hk2; have he2 := hide he2))
    go_ret
    exact ⟨v2, rfl, h0.out.drop.toKeep.trans (hk.out.trans hk2.out), he2.out⟩
  · rw [picE_now h h1 (fun hh => h2 hh.1)]
    rw [cfgE, if_pos h] at hF
    have h := hide h
    have h1 := hide h1
    have h2 := hide h2
    go_enter Tryd.func17, Tryd.ntmps17
    go_wp2_with (first
      | (go_at_call 18; (with_reducible refine (hF.out _).mono ?_); rintro r w1 ⟨v1, rfl, hk, rfl⟩; obtain ⟨c0, c7, c8, c9⟩ := pic_cells (h0.out.keep hk); have hk := hide hk)
      | (go_at_call 39; (with_reducible refine (In_t _ _ _ h1.out _).mono ?_); rintro r w' ⟨rfl, rfl⟩) | (go_at_call 39; (with_reducible refine (In_f _ _ _ h2.out _).mono ?_); rintro r w' ⟨rfl, rfl⟩)
      | (go_at_call 33; (with_reducible refine (Snap_fault_no _ _ _).mono ?_); rintro r w2 ⟨v2, rfl, hk2, he2⟩; have hk2 := hide hk2; have he2 := hide he2))
    go_ret
    exact ⟨v2, rfl, h0.out.drop.toKeep.trans (hk.out.trans hk2.out), he2.out⟩
  · rw [picE_now h h1 (fun hh => by omega)]
    rw [cfgE, if_pos h] at hF
    have h := hide h
    have h1 := hide h1
    have h2 := hide h2
    go_enter Tryd.func17, Tryd.ntmps17
    go_wp2_with (first
      | (go_at_call 18; (with_reducible refine (hF.out _).mono ?_); rintro r w1 ⟨v1, rfl, hk, rfl⟩; obtain ⟨c0, c7, c8, c9⟩ := pic_cells (h0.out.keep hk); have hk := hide hk)
      | (go_at_call 39; (with_reducible refine (In_t _ _ _ h1.out _).mono ?_); rintro r w' ⟨rfl, rfl⟩) | (go_at_call 39; (with_reducible refine (In_t _ _ _ h2.out _).mono ?_); rintro r w' ⟨rfl, rfl⟩)
      | (go_at_call 33; (with_reducible refine (Snap_fault_no _ _ _).mono ?_); rintro r w2 ⟨v2, rfl, hk2, he2⟩; have hk2 := hide hk2; have he2 := hide he2))
    go_ret
    exact ⟨v2, rfl, h0.out.drop.toKeep.trans (hk.out.trans hk2.out), he2.out⟩
end Go.Proofs.YtggeppmiifkikaaDoor
