/- What bytes say, with no program in sight. -/
import Derived.Test.YtggeppmiifkikaaDoorSnapTake
namespace Go.Proofs.YtggeppmiifkikaaDoor
open Go Go.RowKit Go.Shelf

def itD (r : List UInt8) : Option (It × List UInt8) :=
  (numD 1 r).bind fun (n1, r1) => (txtD n1 r1).bind fun (k, r2) => (numD 2 r2).bind fun (n2, r3) => (txtD n2 r3).bind fun (v, r4) => (numD 8 r4).bind fun (d, r5) => some (⟨⟨k.toArray⟩, ⟨v.toArray⟩, (d : Int)⟩, r5)
def itsD : Nat → List UInt8 → Option (List It × List UInt8)
  | 0, r => some ([], r)
  | k + 1, r => (itsD k r).bind fun (xs, r1) => (itD r1).bind fun (x, r2) => some (xs ++ [x], r2)
def hdD : Nat → List UInt8 → Option (List Nat × List UInt8)
  | 0, r => some ([], r)
  | k + 1, r => (hdD k r).bind fun (vs, r1) => (numD 8 r1).bind fun (v, r2) => some (vs ++ [v], r2)
def picOf (vs : List Nat) (xs : List It) : Pic :=
  ⟨⟨(vs.getD 0 0 : Nat), (vs.getD 1 0 : Nat), (vs.getD 2 0 : Nat), (vs.getD 3 0 : Nat), (vs.getD 4 0 : Nat), (vs.getD 5 0 : Nat), (vs.getD 6 0 : Nat) - 1⟩, (vs.getD 7 0 : Nat), (vs.getD 8 0 : Nat), xs⟩
def decD (r : List UInt8) : Option Pic :=
  (hdD 9 r).bind fun (vs, r1) => (numD 8 r1).bind fun (c, r2) => (itsD c r2).bind fun (xs, r3) => if r3 = [] then some (picOf vs xs) else none
inductive PR where
  | err (e : EV)
  | ok (p : Pic)
def sealed (L : List UInt8) : Prop := 11 ≤ L.length ∧ beB (hashN (L.take (L.length - 8))) 8 = L.drop (L.length - 8)
instance (L : List UInt8) : Decidable (sealed L) := by unfold sealed; infer_instance
def bodyOf (L : List UInt8) : List UInt8 := (L.take (L.length - 8)).drop 3
def noPic : Pic := ⟨⟨0, 0, 0, 0, 0, 0, 0⟩, 0, 0, []⟩
def parseM (L : List UInt8) : PR :=
  if ¬ sealed L then .err (.fault tParse ⟨#[]⟩ (.no 8))
  else if L.take 3 ≠ hd0 then .err (.fault tParse ⟨#[]⟩ (.no 9))
  else match decD (bodyOf L) with
    | none => .err (.fault tParse ⟨#[]⟩ (.no 2))
    | some p => if (picE p).isNil = true then .ok p else .err (.fault tParse ⟨#[]⟩ (picE p))

theorem numD_le {n : Nat} {r r1 : List UInt8} {v : Nat} (h : numD n r = some (v, r1)) : r1.length + n ≤ r.length ∧ v < 9223372036854775808 := by
  unfold numD at h
  split at h
  · cases h; rw [List.length_drop]; omega
  · cases h
theorem txtD_le {n : Nat} {r r1 t : List UInt8} (h : txtD n r = some (t, r1)) : r1.length + n ≤ r.length ∧ t.length = n := by
  unfold txtD at h
  split at h
  · cases h; rw [List.length_drop, List.length_take]; omega
  · cases h
theorem itD_le {r r1 : List UInt8} {x : It} (h : itD r = some (x, r1)) : r1.length + 11 ≤ r.length := by
  unfold itD at h
  simp only [Option.bind_eq_some_iff, Prod.exists] at h
  obtain ⟨n1, r1', h1, k, r2, h2, n2, r3, h3, v, r4, h4, d, r5, h5, h6⟩ := h
  cases h6
  have := numD_le h1
  have := txtD_le h2
  have := numD_le h3
  have := txtD_le h4
  have := numD_le h5
  omega
theorem itsD_le : ∀ {k : Nat} {r r1 : List UInt8} {xs : List It}, itsD k r = some (xs, r1) → r1.length + 11 * k ≤ r.length ∧ xs.length = k
  | 0, r, r1, xs, h => by cases h; simp
  | k + 1, r, r1, xs, h => by
    rw [itsD] at h
    simp only [Option.bind_eq_some_iff, Prod.exists] at h
    obtain ⟨ys, r2, h1, x, r3, h2, h3⟩ := h
    cases h3
    have := itsD_le h1
    have := itD_le h2
    rw [List.length_append, List.length_singleton]
    omega
theorem itsD_none : ∀ {j k : Nat} {r : List UInt8}, j ≤ k → itsD j r = none → itsD k r = none
  | j, 0, r, h, hj => by
    obtain rfl : j = 0 := by omega
    exact hj
  | j, k + 1, r, h, hj => by
    rcases Nat.lt_or_ge j (k + 1) with h' | h'
    · rw [itsD, itsD_none (by omega) hj]; rfl
    · obtain rfl : j = k + 1 := by omega
      exact hj
theorem itsD_succ {k : Nat} {r r1 r2 : List UInt8} {xs : List It} {x : It} (h : itsD k r = some (xs, r1)) (hx : itD r1 = some (x, r2)) : itsD (k + 1) r = some (xs ++ [x], r2) := by
  rw [itsD, h]; simp [hx]
theorem itsD_stop {k : Nat} {r r1 : List UInt8} {xs : List It} (h : itsD k r = some (xs, r1)) (hx : itD r1 = none) : itsD (k + 1) r = none := by
  rw [itsD, h]; simp [hx]
/-- What five reads on end tell of an item. -/
theorem itD_of {r r1 r2 r3 r4 r5 t1 t2 : List UInt8} {b b1 b2 b3 b4 b5 : Bool} {n1 n2 : Nat} {d : Int}
    (h1 : GetR 1 r b n1 r1 b1) (h2 : TakeR n1 r1 b1 t1 r2 b2) (h3 : GetR 2 r2 b2 n2 r3 b3) (h4 : TakeR n2 r3 b3 t2 r4 b4) (h5 : GetR 8 r4 b4 d r5 b5) :
    (b = true → b5 = true) ∧ (b5 = false → itD r = some (⟨⟨t1.toArray⟩, ⟨t2.toArray⟩, d⟩, r5)) ∧ (b = false → b5 = true → itD r = none) := by
  have g1 : b1 = true → b5 = true := fun h => h5.old (h4.old (h3.old (h2.old h)))
  have g2 : b2 = true → b5 = true := fun h => h5.old (h4.old (h3.old h))
  have g3 : b3 = true → b5 = true := fun h => h5.old (h4.old h)
  have g4 : b4 = true → b5 = true := fun h => h5.old h
  have key : b = false → (b5 = false ∧ itD r = some (⟨⟨t1.toArray⟩, ⟨t2.toArray⟩, d⟩, r5)) ∨ (b5 = true ∧ itD r = none) := fun hb => by
    unfold itD
    rcases hd1 : numD 1 r with _ | ⟨m, q⟩
    · exact .inr ⟨g1 (h1.no hd1), rfl⟩
    obtain ⟨e, rfl, hb1⟩ := h1.ok m q hb hd1
    obtain rfl : n1 = m := by omega
    simp only [Option.bind_some]
    rcases hd2 : txtD n1 r1 with _ | ⟨m2, q2⟩
    · exact .inr ⟨g2 (h2.no hd2), rfl⟩
    obtain ⟨rfl, rfl, hb2⟩ := h2.ok m2 q2 hb1 hd2
    simp only [Option.bind_some]
    rcases hd3 : numD 2 r2 with _ | ⟨m3, q3⟩
    · exact .inr ⟨g3 (h3.no hd3), rfl⟩
    obtain ⟨e3, rfl, hb3⟩ := h3.ok m3 q3 hb2 hd3
    obtain rfl : n2 = m3 := by omega
    simp only [Option.bind_some]
    rcases hd4 : txtD n2 r3 with _ | ⟨m4, q4⟩
    · exact .inr ⟨g4 (h4.no hd4), rfl⟩
    obtain ⟨rfl, rfl, hb4⟩ := h4.ok m4 q4 hb3 hd4
    simp only [Option.bind_some]
    rcases hd5 : numD 8 r4 with _ | ⟨m5, q5⟩
    · exact .inr ⟨h5.no hd5, rfl⟩
    obtain ⟨rfl, rfl, hb5⟩ := h5.ok m5 q5 hb4 hd5
    exact .inl ⟨hb5, rfl⟩
  refine ⟨fun hb => g1 (h1.old hb), fun h5' => ?_, fun hb h5' => ?_⟩
  · cases b
    · rcases key rfl with h | h
      · exact h.2
      · rw [h5'] at h; cases h.1
    · rw [g1 (h1.old rfl)] at h5'; cases h5'
  · rcases key hb with h | h
    · rw [h5'] at h; cases h.1
    · exact h.2
/-- The head's numbers, as far as they are read. -/
structure HdR (k : Nat) (r0 : List UInt8) (vs : List Int) (r : List UInt8) (b : Bool) : Prop where
  len : vs.length = k
  ok : b = false → ∃ us, hdD k r0 = some (us, r) ∧ vs = us.map fun u : Nat => (u : Int)
  no : b = true → hdD k r0 = none
  le : r.length ≤ r0.length
theorem HdR.zero (r0 : List UInt8) : HdR 0 r0 [] r0 false := ⟨rfl, fun _ => ⟨[], rfl, rfl⟩, (fun h => nomatch h), Nat.le_refl _⟩
theorem HdR.succ {k : Nat} {r0 r r' : List UInt8} {vs : List Int} {b b' : Bool} {v : Int} (h : HdR k r0 vs r b) (g : GetR 8 r b v r' b') : HdR (k + 1) r0 (vs ++ [v]) r' b' := by
  refine ⟨by rw [List.length_append, h.len]; rfl, fun hb' => ?_, fun hb' => ?_, Nat.le_trans g.le h.le⟩
  · have hb : b = false := by
      cases hb : b
      · rfl
      · rw [g.old hb] at hb'; cases hb'
    obtain ⟨us, h1, h2⟩ := h.ok hb
    rcases hd : numD 8 r with _ | ⟨m, q⟩
    · rw [g.no hd] at hb'; cases hb'
    · obtain ⟨rfl, rfl, _⟩ := g.ok m q hb hd
      exact ⟨us ++ [m], by rw [hdD, h1]; simp [hd], by rw [h2, List.map_append]; rfl⟩
  · rw [hdD]
    cases hb : b
    · obtain ⟨us, h1, h2⟩ := h.ok hb
      rcases hd : numD 8 r with _ | ⟨m, q⟩
      · rw [h1]; simp [hd]
      · obtain ⟨_, _, hf⟩ := g.ok m q hb hd
        rw [hf] at hb'; cases hb'
    · rw [h.no hb]; rfl
/-- So many rounds at most. -/
structure MOK (v : Int) (L M : Nat) : Prop where
  le : (M : Int) ≤ max v 0
  big : (M : Int) = max v 0 ∨ L < M
  top : M ≤ 10000001
theorem mok (v : Int) (L L1 : Nat) (h : L1 ≤ L) (hL : L ≤ 10000000) : ∃ M : Nat, min (max v 0) ((L : Int) + 1) = M ∧ MOK v L1 M := by
  refine ⟨(min (max v 0) ((L : Int) + 1)).toNat, by omega, ⟨by omega, by omega, by omega⟩⟩
/-- The items, as far as they are read. -/
structure ItR (c : Bool) (r0 : List UInt8) (k : Nat) (xs : List It) (r : List UInt8) (b : Bool) : Prop where
  ok : c = false → itsD k r0 = some (xs, r) ∧ b = false
  bad : c = true → b = true
  len : xs.length = k
  le : r.length ≤ r0.length
theorem dec_head_none {r0 r r1 : List UInt8} {vs : List Int} {b b1 : Bool} {v : Int} (hR : HdR 9 r0 vs r b) (hg : GetR 8 r b v r1 b1) (hb : b1 = true) : decD r0 = none := by
  unfold decD
  cases hb0 : b
  · obtain ⟨us, h1, _⟩ := hR.ok hb0
    rw [h1]
    rcases hd : numD 8 r with _ | ⟨m, q⟩
    · simp [hd]
    · obtain ⟨_, _, hf⟩ := hg.ok m q hb0 hd
      rw [hf] at hb; cases hb
  · rw [hR.no hb0]; rfl
theorem hdD_small : ∀ {k : Nat} {r r1 : List UInt8} {us : List Nat}, hdD k r = some (us, r1) → ∀ u ∈ us, u < 9223372036854775808
  | 0, r, r1, us, h => by cases h; simp
  | k + 1, r, r1, us, h => by
    rw [hdD] at h
    simp only [Option.bind_eq_some_iff, Prod.exists] at h
    obtain ⟨vs, r2, h1, v, r3, h2, h3⟩ := h
    cases h3
    intro u hu
    rcases List.mem_append.1 hu with hu | hu
    · exact hdD_small h1 u hu
    · rw [List.mem_singleton.1 hu]; exact (numD_le h2).2
theorem dec_head {r0 r r1 : List UInt8} {vs : List Int} {b b1 : Bool} {v : Int} (hR : HdR 9 r0 vs r b) (hg : GetR 8 r b v r1 b1) (hb : b1 = false) :
    ∃ us : List Nat, ∃ c : Nat, v = c ∧ (vs = us.map (fun u : Nat => (u : Int)) ∧ ∀ u ∈ us, u < 9223372036854775808) ∧ decD r0 = (itsD c r1).bind fun (xs, r3) => if r3 = [] then some (picOf us xs) else none := by
  have hb0 : b = false := by
    cases hb0 : b
    · rfl
    · rw [hg.old hb0] at hb; cases hb
  obtain ⟨us, h1, h2⟩ := hR.ok hb0
  rcases hd : numD 8 r with _ | ⟨m, q⟩
  · rw [hg.no hd] at hb; cases hb
  · obtain ⟨rfl, rfl, _⟩ := hg.ok m q hb0 hd
    refine ⟨us, m, rfl, ⟨h2, hdD_small h1⟩, ?_⟩
    unfold decD
    rw [h1]
    simp [hd]
theorem dec_break {r0 r r1 r' : List UInt8} {vs : List Int} {b b1 b' : Bool} {v : Int} {k M : Nat} {xs : List It} (hR : HdR 9 r0 vs r b) (hg : GetR 8 r b v r1 b1) (hM : MOK v r1.length M) (hI : ItR b1 r1 k xs r' b') (hk : k < M)
    (hn : b' = false → itD r' = none) : decD r0 = none := by
  cases hb : b1
  · obtain ⟨us, c, rfl, _, h⟩ := dec_head hR hg hb
    rw [h]
    obtain ⟨h1, h2⟩ := hI.ok hb
    have := itsD_none (k := c) (by have := hM.le; omega) (itsD_stop h1 (hn h2))
    rw [this]; rfl
  · exact dec_head_none hR hg hb
theorem dec_end {r0 r r1 r' : List UInt8} {vs : List Int} {b b1 b' : Bool} {v : Int} {M : Nat} {xs : List It} (hR : HdR 9 r0 vs r b) (hg : GetR 8 r b v r1 b1) (hM : MOK v r1.length M) (hI : ItR b1 r1 M xs r' b') :
    (b' = true → decD r0 = none) ∧ (b' = false → r' ≠ [] → decD r0 = none) ∧ (b' = false → r' = [] → ∃ us : List Nat, (vs = us.map (fun u : Nat => (u : Int)) ∧ ∀ u ∈ us, u < 9223372036854775808) ∧ decD r0 = some (picOf us xs)) := by
  cases hb : b1
  · obtain ⟨us, c, rfl, hvs, h⟩ := dec_head hR hg hb
    obtain ⟨h1, h2⟩ := hI.ok hb
    have hc : M = c := by
      have := itsD_le h1
      rcases hM.big with h | h
      · omega
      · omega
    subst hc
    rw [h, h1]
    refine ⟨fun h => (by rw [h2] at h; cases h), fun _ h => (by simp [h]), fun _ h => ⟨us, hvs, by simp [h]⟩⟩
  · have hn := dec_head_none hR hg hb
    have hb' := hI.bad hb
    exact ⟨fun _ => hn, fun h => (by rw [hb'] at h; cases h), fun h => (by rw [hb'] at h; cases h)⟩
end Go.Proofs.YtggeppmiifkikaaDoor
