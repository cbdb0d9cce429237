/- Slices that a call owns, as assertions of the separation logic; slices that are only read. No program is named here. -/
import Derived.Test.YtbbdimlpofjlfaaGreatDoorQSl
import Derived.Maps.AppendAt
import Derived.OwnWalk
namespace Go.Proofs.YtbbdimlpofjlfaaGreatDoor
open Go Go.RowKit

/-- The value v is a slice of n elements, of so many cells each, that the call owns: its cells are xs. -/
def OwnRow (e : TypeId) (size : Nat) (v : Value) (n : Nat) (xs : List Value) : SProp := fun h =>
  xs.length = n * size ∧ ((v = .slice none 0 0 ∧ n = 0) ∨ ∃ b cap cur, v = .slice (some ⟨b, 0, none⟩) n cap ∧ n ≤ cap ∧ cap ≤ maxLen ∧ cur.size = cap * size ∧ cur.toList.take (n * size) = xs ∧ pts b (.cells cur e (0, 0)) h)
/-- The slice v reads as xs, of one cell each. -/
def RowAt (w : World) (v : Value) (xs : List Value) : Prop :=
  (v = .slice none 0 0 ∧ xs = []) ∨ ∃ b off cap, v = .slice (some ⟨b, off, none⟩) xs.length cap ∧ xs.length ≤ cap ∧ cap ≤ maxLen ∧ ∀ j u, xs[j]? = some u → w.cell? ⟨b, off + j, none⟩ = some u

section
variable {g w w' : World} {e : TypeId} {size n n' : Nat} {v v' : Value} {xs xs' : List Value} {L : List SProp}
theorem RowAt.keep (h : RowAt w v xs) (k : Keep w w') : RowAt w' v xs := by
  rcases h with h | ⟨b, off, cap, h1, h2, h3, h4⟩
  · exact .inl h
  · exact .inr ⟨b, off, cap, h1, h2, h3, fun j u hu => k.cell (h4 j u hu)⟩
theorem RowAt.shape (h : RowAt w v xs) : ∃ ao cap, v = .slice ao xs.length cap := by
  rcases h with ⟨rfl, rfl⟩ | ⟨b, off, cap, rfl, _⟩
  · exact ⟨_, _, rfl⟩
  · exact ⟨_, _, rfl⟩
theorem RowAt.nil : RowAt w (.slice none 0 0) [] := .inl ⟨rfl, rfl⟩
theorem Holds.ownsRow (h : Holds g w (OwnRow e size v n xs :: L)) : w.ownsRow g.heap.size e size v n xs := by
  obtain ⟨_, _, _, _, x, ⟨y, z, _, hx, hp, _⟩, f⟩ := h
  refine ⟨hp.1, ?_⟩
  rcases hp.2 with hn | ⟨b, cap, cur, h1, h2, h3, h4, h5, h6⟩
  · exact .inl hn
  · have hb := f b _ (by rw [hx]; exact Frag.add_some (by rw [h6]; simp; rfl))
    exact .inr ⟨b, cap, cur, h1, hb.1, hb.2, h2, h3, h4, h5⟩
theorem Holds.ownNil (h : Holds g w L) (e : TypeId) (size : Nat) : Holds g w (OwnRow e size (.slice none 0 0) 0 [] :: L) := by
  obtain ⟨a, b, c, z, x, s, f⟩ := h
  exact ⟨a, b, c, z, x, ⟨fun _ => none, x, fun _ => .inl rfl, by funext i; rfl, ⟨by simp, .inl ⟨rfl, rfl⟩⟩, s⟩, f⟩
/-- An append, a store ..: the row goes on in its block, or in a new one. -/
theorem Holds.grown (h : Holds g w (OwnRow e size v n xs :: L)) (ho : w'.ownsRow g.heap.size e size v' n' xs') (hg : w.grownBy w' v.ownBlock)
    (hb : v'.ownBlock = v.ownBlock ∨ ∃ k, v'.ownBlock = some k ∧ w.heap.size ≤ k) : Holds g w' (OwnRow e size v' n' xs' :: L) := by
  have hlt := h.ownsRow.lt
  obtain ⟨a, b, c, z, x, ⟨y, t, d, hx, hp, s⟩, f⟩ := h
  subst hx
  have hy : ∀ k, v.ownBlock = some k → ∃ o, y k = some o := by
    intro k hk
    rcases hp.2 with ⟨rfl, _⟩ | ⟨q, cap, cur, rfl, _, _, _, _, h6⟩
    · simp [Value.ownBlock] at hk
    · simp [Value.ownBlock] at hk
      subst hk
      exact ⟨_, by rw [h6]; simp; rfl⟩
  have ht : ∀ i o, t i = some o → g.heap.size ≤ i ∧ w.heap[i]? = some o := fun i o hi => f i o (by rw [Frag.add_comm d]; exact Frag.add_some hi)
  have htl : ∀ i o, t i = some o → i < w.heap.size := fun i o hi => by
    have := (ht i o hi).2
    rcases Nat.lt_or_ge i w.heap.size with h | h
    · exact h
    · simp [Array.getElem?_eq_none h] at this
  have hne : ∀ i o, t i = some o → some i ≠ v.ownBlock := fun i o hi he => by
    obtain ⟨o', ho'⟩ := hy i he.symm
    rcases d i with h | h
    · rw [h] at ho'; cases ho'
    · rw [h] at hi; cases hi
  have htv : ∀ i o, t i = some o → some i ≠ v'.ownBlock := fun i o hi he => by
    rcases hb with hb | ⟨k, hb, hk⟩
    · exact hne i o hi (he.trans hb)
    · rw [hb] at he
      have := htl i o hi
      have := Option.some.inj he
      omega
  have key : ∀ y', (∀ i, y' i = none ∨ t i = none) → ((OwnRow e size v' n' xs') y') → (∀ i o, y' i = some o → g.heap.size ≤ i ∧ w'.heap[i]? = some o) → Holds g w' (OwnRow e size v' n' xs' :: L) := by
    intro y' hd ho' hf'
    refine ⟨hg.os.trans a, hg.output.trans b, hg.tape.trans c, ⟨Nat.le_trans z.1 hg.size, fun i hi => ?_⟩, Frag.add y' t, ⟨y', t, hd, rfl, ho', s⟩, fun i o hi => ?_⟩
    · rw [hg.block i (Nat.lt_of_lt_of_le hi z.1) (fun he => by have := (hlt i he.symm).1; omega)]
      exact z.2 i hi
    · cases hy' : y' i with
      | some o' =>
        rw [Frag.add_some hy'] at hi
        obtain rfl := Option.some.inj hi
        exact hf' i _ hy'
      | none =>
        rw [Frag.add_none hy'] at hi
        obtain ⟨h1, h2⟩ := ht i o hi
        exact ⟨h1, by rw [hg.block i (htl i o hi) (hne i o hi)]; exact h2⟩
  rcases ho.2 with hn | ⟨q, cap, cur, rfl, h1, h2, h3, h4, h5, h6⟩
  · exact key (fun _ => none) (fun _ => .inl rfl) ⟨ho.1, .inl hn⟩ (fun _ _ h => by cases h)
  · refine key (fun i => if i = q then some (.cells cur e (0, 0)) else none) (fun i => ?_) ⟨ho.1, .inr ⟨q, cap, cur, rfl, h3, h4, h5, h6, fun i => rfl⟩⟩ (fun i o hi => ?_)
    · by_cases hi : i = q
      · subst hi
        right
        cases hti : t i with
        | none => rfl
        | some o => exact absurd (by simp [Value.ownBlock]) (htv i o hti)
      · exact .inl (if_neg hi)
    · by_cases hiq : i = q
      · subst hiq
        simp at hi
        subst hi
        exact ⟨h1, h2⟩
      · simp [hiq] at hi
theorem Holds.rowAt (h : Holds g w (OwnRow e 1 v n xs :: L)) : RowAt w v xs := by
  have ho := h.ownsRow
  have hl : xs.length = n := by have := ho.1; omega
  rcases ho.2 with ⟨rfl, h0⟩ | ⟨q, cap, cur, rfl, h1, h2, h3, h4, h5, h6⟩
  · exact .inl ⟨rfl, List.length_eq_zero_iff.1 (by omega)⟩
  · refine .inr ⟨q, 0, cap, by rw [hl], by omega, h4, fun j u hu => ?_⟩
    have := ho.cells (g := q) rfl j u hu
    have hadd : (⟨q, 0, none⟩ : Addr).add j = ⟨q, 0 + j, none⟩ := by unfold Addr.add; split <;> simp_all
    rw [hadd] at this
    exact this
end
end Go.Proofs.YtbbdimlpofjlfaaGreatDoor
/- Cells of a slice that a call owns. No program is named here. -/
namespace Go.Proofs.YtbbdimlpofjlfaaGreatDoor
open Go Go.RowKit

section
variable {g w w' : World} {e : TypeId} {size n cap q : Nat} {xs : List Value} {F : List SProp}
/-- What lies in the block of a row. -/
structure RowCur (cur : Array Value) (size n cap : Nat) (xs : List Value) : Prop where
  len : xs.length = n * size
  le : n ≤ cap
  max : cap ≤ maxLen
  curs : cur.size = cap * size
  take : cur.toList.take (n * size) = xs
theorem RowCur.get {cur : Array Value} (h : RowCur cur size n cap xs) {j : Nat} {u : Value} (hu : xs[j]? = some u) : cur[j]? = some u := by
  have hj : j < n * size := by
    rw [← h.len]
    exact (List.getElem?_eq_some_iff.1 hu).1
  rw [← h.take, List.getElem?_take_of_lt hj, Array.getElem?_toList] at hu
  exact hu
theorem RowCur.set {cur : Array Value} (h : RowCur cur size n cap xs) (j : Nat) (v : Value) : RowCur (cur.setIfInBounds j v) size n cap (xs.set j v) :=
  ⟨by rw [List.length_set]; exact h.len, h.le, h.max, by rw [Array.size_setIfInBounds]; exact h.curs, by rw [Array.toList_setIfInBounds, List.take_set, h.take]⟩
theorem Holds.rowPts (h : Holds g w (OwnRow e size (.slice (some ⟨q, 0, none⟩) n cap) n xs :: F)) : ∃ cur, RowCur cur size n cap xs ∧ Holds g w (pts q (.cells cur e (0, 0)) :: F) := by
  have h1 : Holds g w ((fun x => ∃ cur, RowCur cur size n cap xs ∧ pts q (.cells cur e (0, 0)) x) :: F) := h.head fun x hx => by
    obtain ⟨h1, ⟨h2, _⟩ | ⟨b, cap', cur, h2, h3, h4, h5, h6, h7⟩⟩ := hx
    · cases h2
    · cases h2
      exact ⟨cur, ⟨h1, h3, h4, h5, h6⟩, h7⟩
  obtain ⟨cur, h2⟩ := h1.unex
  obtain ⟨hc, h3⟩ := h2.unfact
  exact ⟨cur, hc, h3⟩
theorem Holds.ptsRow {cur : Array Value} (hc : RowCur cur size n cap xs) (h : Holds g w (pts q (.cells cur e (0, 0)) :: F)) : Holds g w (OwnRow e size (.slice (some ⟨q, 0, none⟩) n cap) n xs :: F) :=
  h.head fun _ hx => ⟨hc.len, .inr ⟨q, cap, cur, rfl, hc.le, hc.max, hc.curs, hc.take, hx⟩⟩
theorem Holds.rowCell (h : Holds g w (OwnRow e size (.slice (some ⟨q, 0, none⟩) n cap) n xs :: F)) {j : Nat} {u : Value} (hu : xs[j]? = some u) : w.cell? ⟨q, j, none⟩ = some u := by
  obtain ⟨cur, hc, h⟩ := h.rowPts
  exact h.cell (hc.get hu)
theorem Holds.rowFree (h : Holds g w (OwnRow e size (.slice (some ⟨q, 0, none⟩) n cap) n xs :: F)) {j : Nat} : w.frozen? ⟨q, j, none⟩ = false := by
  obtain ⟨cur, hc, h⟩ := h.rowPts
  exact h.free
theorem Holds.rowSet (h : Holds g w (OwnRow e size (.slice (some ⟨q, 0, none⟩) n cap) n xs :: F)) (j : Nat) (v : Value) : Holds g (w.setCell ⟨q, j, none⟩ v) (OwnRow e size (.slice (some ⟨q, 0, none⟩) n cap) n (xs.set j v) :: F) := by
  obtain ⟨cur, hc, h⟩ := h.rowPts
  exact h.setCell.ptsRow (hc.set j v)
theorem Holds.rowLt (h : Holds g w (OwnRow e size (.slice (some ⟨q, 0, none⟩) n cap) n xs :: F)) : q < w.heap.size := by
  obtain ⟨cur, hc, h⟩ := h.rowPts
  exact h.lt
/-- The slice is none, or it lies at the front of a block. -/
theorem Holds.rowShape {v : Value} (h : Holds g w (OwnRow e size v n xs :: F)) : (v = .slice none 0 0 ∧ n = 0 ∧ xs = []) ∨ ∃ q cap, v = .slice (some ⟨q, 0, none⟩) n cap := by
  have ho := h.ownsRow
  rcases ho.2 with ⟨rfl, h0⟩ | ⟨q, cap, cur, rfl, _⟩
  · refine .inl ⟨rfl, h0, List.length_eq_zero_iff.1 ?_⟩
    have := ho.1
    rw [h0, Nat.zero_mul] at this
    exact this
  · exact .inr ⟨q, cap, rfl⟩
/-- A shorter slice of the same block. -/
theorem Holds.rowTake (h : Holds g w (OwnRow e size (.slice (some ⟨q, 0, none⟩) n cap) n xs :: F)) {m : Nat} (hm : m ≤ n) : Holds g w (OwnRow e size (.slice (some ⟨q, 0, none⟩) m cap) m (xs.take (m * size)) :: F) := by
  obtain ⟨cur, hc, h⟩ := h.rowPts
  have hms : m * size ≤ n * size := Nat.mul_le_mul_right _ hm
  exact h.ptsRow ⟨by rw [List.length_take, hc.len]; omega, Nat.le_trans hm hc.le, hc.max, hc.curs, by rw [← hc.take, List.take_take, Nat.min_eq_left hms]⟩
end
theorem rowForm {w : World} {base size n : Nat} {e : TypeId} {v : Value} {xs : List Value} (h : w.ownsRow base e size v n xs) : ∃ ao cap, v = .slice ao n cap := by
  rcases h.2 with ⟨rfl, rfl⟩ | ⟨q, cap, cur, rfl, _⟩
  · exact ⟨_, _, rfl⟩
  · exact ⟨_, _, rfl⟩
theorem newCells1 (w : World) (n : Nat) (x : Value) (t : TypeId) (hn : w.heap.size = n) : ∀ j u, [x][j]? = some u → (w.alloc (.cells #[x] t)).cell? ((⟨n, 0, none⟩ : Addr).add j) = some u := by
  intro j u hj
  subst hn
  have h := (Holds.start w).alloc (o := .cells #[x] t)
  match j, hj with
  | 0, hj => cases hj; exact h.cell rfl
theorem newCells3 (w : World) (n : Nat) (x y z : Value) (t : TypeId) (hn : w.heap.size = n) : ∀ j u, [x, y, z][j]? = some u → (w.alloc (.cells #[x, y, z] t)).cell? ((⟨n, 0, none⟩ : Addr).add j) = some u := by
  intro j u hj
  subst hn
  have h := (Holds.start w).alloc (o := .cells #[x, y, z] t)
  match j, hj with
  | 0, hj => cases hj; exact h.cell rfl
  | 1, hj => cases hj; exact h.cell rfl
  | 2, hj => cases hj; exact h.cell rfl
theorem newCells4 (w : World) (n : Nat) (x y z u : Value) (t : TypeId) (hn : w.heap.size = n) : ∀ j r, [x, y, z, u][j]? = some r → (w.alloc (.cells #[x, y, z, u] t)).cell? ((⟨n, 0, none⟩ : Addr).add j) = some r := by
  intro j r hj
  subst hn
  have h := (Holds.start w).alloc (o := .cells #[x, y, z, u] t)
  match j, hj with
  | 0, hj => cases hj; exact h.cell rfl
  | 1, hj => cases hj; exact h.cell rfl
  | 2, hj => cases hj; exact h.cell rfl
  | 3, hj => cases hj; exact h.cell rfl
end Go.Proofs.YtbbdimlpofjlfaaGreatDoor
