/- Who is resident, whatever is asked of a policy: no program in sight. -/
import Derived.Test.YtbbdimlpofjlfaaGreatDoorQTwLearn
import Derived.Test.YtbbdimlpofjlfaaGreatDoorQLsRow
namespace Go.Proofs.YtbbdimlpofjlfaaGreatDoor
open Go Go.RowKit

/-! ### Rows of keys -/
theorem mem_kFront {l : List ByteArray} {k c : ByteArray} : c ∈ kFront l k ↔ c = k ∨ c ∈ l := by
  unfold kFront
  rw [List.mem_cons, kDel_mem]
  by_cases h : c = k
  · simp [h]
  · simp [h]
theorem kLast_split {l : List ByteArray} (h : l ≠ []) : l.dropLast ++ [kLast l] = l := by
  unfold kLast
  rw [List.getLast?_eq_some_getLast h]
  exact List.dropLast_concat_getLast h
theorem mem_dropLast {l : List ByteArray} (hn : l.Nodup) (h : l ≠ []) {c : ByteArray} : c ∈ l.dropLast ↔ c ∈ l ∧ c ≠ kLast l := by
  have e := kLast_split h
  have hn' := hn
  rw [← e, List.nodup_append] at hn'
  constructor
  · intro hc
    exact ⟨List.dropLast_subset _ hc, fun he => hn'.2.2 c hc (kLast l) (by simp) he⟩
  · rintro ⟨hc, hne⟩
    rw [← e, List.mem_append] at hc
    rcases hc with hc | hc
    · exact hc
    · exact absurd (List.mem_singleton.1 hc) hne
theorem nodup_dropLast {l : List ByteArray} (hn : l.Nodup) : l.dropLast.Nodup := List.Nodup.sublist (List.dropLast_sublist l) hn
theorem nodup_take {l : List ByteArray} (hn : l.Nodup) (n : Nat) : (l.take n).Nodup := List.Nodup.sublist (List.take_sublist n l) hn
theorem nodup_drop {l : List ByteArray} (hn : l.Nodup) (n : Nat) : (l.drop n).Nodup := List.Nodup.sublist (List.drop_sublist n l) hn
theorem mem_take_drop {l : List ByteArray} (hn : l.Nodup) (n : Nat) (c : ByteArray) : (c ∈ l ↔ c ∈ l.take n ∨ c ∈ l.drop n) ∧ (c ∈ l.take n → c ∉ l.drop n) := by
  have e := List.take_append_drop n l
  refine ⟨by conv => { lhs; rw [← e] }; exact List.mem_append, fun h1 h2 => ?_⟩
  rw [← e, List.nodup_append] at hn
  exact hn.2.2 c h1 c h2 rfl
/-- Rows of the same keys, each once, are as long. -/
theorem same_len : ∀ {l m : List ByteArray}, l.Nodup → m.Nodup → (∀ c, c ∈ l ↔ c ∈ m) → l.length = m.length
  | [], m, _, _, h => by
    cases m with
    | nil => rfl
    | cons x m => exact absurd ((h x).2 (by simp)) (by simp)
  | x :: l, m, hl, hm, h => by
    rw [List.nodup_cons] at hl
    have hx : x ∈ m := (h x).1 (by simp)
    obtain ⟨m1, m2, rfl⟩ := List.append_of_mem hx
    have hd := kDel_mid hm
    have hm' : (m1 ++ m2).Nodup := by rw [← hd]; exact kDel_nodup x hm
    have := same_len hl.2 hm' (fun c => by
      rw [← hd, kDel_mem, ← h c, List.mem_cons]
      constructor
      · intro hc
        exact ⟨.inr hc, fun he => hl.1 (he ▸ hc)⟩
      · rintro ⟨hc, hne⟩
        rcases hc with hc | hc
        · exact absurd hc hne
        · exact hc)
    rw [List.length_cons, this, List.length_append, List.length_append, List.length_cons]
    omega
theorem kDel_length {l : List ByteArray} (hn : l.Nodup) {k : ByteArray} (hk : k ∈ l) : (kDel l k).length + 1 = l.length := by
  obtain ⟨m1, m2, rfl⟩ := List.append_of_mem hk
  rw [kDel_mid hn, List.length_append, List.length_append, List.length_cons]
  omega
theorem kFront_new {l : List ByteArray} {k : ByteArray} (hk : k ∉ l) : kFront l k = k :: l := by
  unfold kFront
  rw [kDel_none hk]
theorem kFront_old {l : List ByteArray} (hn : l.Nodup) {k : ByteArray} (hk : k ∈ l) : (kFront l k).length = l.length := by
  unfold kFront
  rw [List.length_cons, kDel_length hn hk]
/-- Rows of keys of which one has all of the other's are at least as long. -/
theorem sub_len {l m : List ByteArray} (hl : l.Nodup) (h : ∀ c ∈ l, c ∈ m) : l.length ≤ m.length := by
  have h1 : (m.filter fun c => decide (c ∈ l)).length ≤ m.length := List.length_filter_le _ _
  refine Nat.le_trans ?_ h1
  clear h1
  induction l generalizing m with
  | nil => exact Nat.zero_le _
  | cons x l ih =>
    rw [List.nodup_cons] at hl
    obtain ⟨m1, m2, rfl⟩ := List.append_of_mem (h x (by simp))
    have := ih (m := m1 ++ m2) hl.2 (fun c hc => by
      have := h c (by simp [hc])
      rw [List.mem_append, List.mem_cons] at this
      rw [List.mem_append]
      rcases this with h1 | h1 | h1
      · exact .inl h1
      · exact absurd (h1 ▸ hc) hl.1
      · exact .inr h1)
    rw [List.filter_append, List.filter_cons_of_pos (by simp), List.length_append, List.length_cons]
    rw [List.filter_append, List.length_append] at this
    have mono : ∀ m : List ByteArray, (m.filter fun c => decide (c ∈ l)).length ≤ (m.filter fun c => decide (c ∈ x :: l)).length := fun m => by
      rw [← List.countP_eq_length_filter, ← List.countP_eq_length_filter]
      refine List.countP_mono_left fun c _ hc => ?_
      simp only [decide_eq_true_eq] at hc ⊢
      exact List.mem_cons_of_mem _ hc
    have h1 := mono m1
    have h2 := mono m2
    rw [List.length_cons]
    omega
/-! ### Maps -/
theorem TMap.has_get {α : Type} (m : TMap α) (k : ByteArray) : m.has k = (m.get k).isSome := by
  unfold TMap.has TMap.get
  induction m with
  | nil => rfl
  | cons p m ih =>
    rw [List.any_cons, List.find?_cons]
    cases hp : decide (p.1 = k) with
    | true => rfl
    | false => rw [Bool.false_or]; exact ih
theorem TMap.has_put {α : Type} (m : TMap α) (k : ByteArray) (v : α) (c : ByteArray) : (m.put k v).has c = true ↔ c = k ∨ m.has c = true := by
  rw [TMap.has_get, TMap.get_put, TMap.has_get]
  by_cases h : c = k
  · simp [h]
  · simp [h]
theorem TMap.has_del {α : Type} (m : TMap α) (k c : ByteArray) : (m.del k).has c = true ↔ m.has c = true ∧ c ≠ k := by
  unfold TMap.has TMap.del
  rw [List.any_filter]
  simp only [List.any_eq_true, Bool.and_eq_true, Bool.not_eq_true', decide_eq_false_iff_not, decide_eq_true_eq]
  constructor
  · rintro ⟨p, hp, h1, h2⟩
    exact ⟨⟨p, hp, h2⟩, fun e => h1 (h2.trans e)⟩
  · rintro ⟨⟨p, hp, h2⟩, h1⟩
    exact ⟨p, hp, fun e => h1 (h2.symm.trans e), h2⟩
theorem delAll_has {α : Type} : ∀ (l : List ByteArray) (m : TMap α) (c : ByteArray), (delAll m l).has c = true ↔ m.has c = true ∧ c ∉ l
  | [], m, c => by simp [delAll]
  | k :: l, m, c => by
    have h := delAll_has l (m.del k) c
    rw [TMap.has_del] at h
    show (delAll (m.del k) l).has c = true ↔ _
    rw [h, List.mem_cons]
    constructor
    · rintro ⟨⟨h1, h2⟩, h3⟩
      exact ⟨h1, fun h => h.elim h2 h3⟩
    · rintro ⟨h1, h2⟩
      exact ⟨⟨h1, fun h => h2 (.inl h)⟩, fun h => h2 (.inr h)⟩
/-! ### srlru -/
structure Sr.Inv (s : Sr) : Prop where
  n : s.n.Nodup
  a : s.a.Nodup
  g : s.g.Nodup
  na : ∀ c ∈ s.n, c ∉ s.a
  ng : ∀ c ∈ s.n, c ∉ s.g
  ag : ∀ c ∈ s.a, c ∉ s.g
  marks : ∀ c, s.marks.has c = true ↔ c ∈ s.n ∨ c ∈ s.a ∨ c ∈ s.g
def Sr.res (s : Sr) : List ByteArray := s.n ++ s.a
theorem Sr.Inv.nodup {s : Sr} (h : s.Inv) : s.res.Nodup := by
  unfold Sr.res
  rw [List.nodup_append]
  exact ⟨h.n, h.a, fun c hc d hd e => h.na c hc (e ▸ hd)⟩
theorem Sr.mem_res {s : Sr} {c : ByteArray} : c ∈ s.res ↔ c ∈ s.n ∨ c ∈ s.a := List.mem_append
/-- Keys that come to be old. -/
theorem Sr.demote_inv : ∀ (l : List ByteArray) (s : Sr), s.n.Nodup → ((s.demote l).n.Nodup) ∧ (∀ c, c ∈ (s.demote l).n ↔ c ∈ l ∨ c ∈ s.n) ∧ (∀ c, (s.demote l).marks.has c = true ↔ c ∈ l ∨ s.marks.has c = true)
  | [], s, h => ⟨h, fun c => by simp [Sr.demote], fun c => by simp [Sr.demote]⟩
  | k :: l, s, h => by
    obtain ⟨h1, h2, h3⟩ := Sr.demote_inv l (s.demote1 k) (kFront_nodup k h)
    refine ⟨h1, fun c => ?_, fun c => ?_⟩
    · refine (h2 c).trans ?_
      show c ∈ l ∨ c ∈ kFront s.n k ↔ _
      rw [mem_kFront, List.mem_cons]
      constructor
      · rintro (h | h | h)
        · exact .inl (.inr h)
        · exact .inl (.inl h)
        · exact .inr h
      · rintro ((h | h) | h)
        · exact .inr (.inl h)
        · exact .inl h
        · exact .inr (.inr h)
    · refine (h3 c).trans ?_
      show c ∈ l ∨ (s.marks.put k (true, true)).has c = true ↔ _
      rw [TMap.has_put, List.mem_cons]
      constructor
      · rintro (h | h | h)
        · exact .inl (.inr h)
        · exact .inl (.inl h)
        · exact .inr h
      · rintro ((h | h) | h)
        · exact .inr (.inl h)
        · exact .inl h
        · exact .inr (.inr h)
theorem kDel_sub {l : List ByteArray} {k c : ByteArray} (h : c ∈ kDel l k) : c ∈ l := (kDel_mem.1 h).1
/-- A key that is in no row comes to the second one. -/
theorem Sr.again_inv {s : Sr} (hn : s.n.Nodup) (ha : s.a.Nodup) (hg : s.g.Nodup) (hna : ∀ c ∈ s.n, c ∉ s.a) (hng : ∀ c ∈ s.n, c ∉ s.g) (hag : ∀ c ∈ s.a, c ∉ s.g) (k : ByteArray) (hk : k ∉ s.n ∧ k ∉ s.a ∧ k ∉ s.g)
    (hm : ∀ c, c ≠ k → (s.marks.has c = true ↔ c ∈ s.n ∨ c ∈ s.a ∨ c ∈ s.g)) :
    (s.again k).Inv ∧ (∀ c, c ∈ (s.again k).res ↔ c = k ∨ c ∈ s.res) := by
  obtain ⟨t, ht⟩ : ∃ t, max s.target 1 = t := ⟨_, rfl⟩
  have ef : kFront s.a k = k :: s.a := kFront_new hk.2.1
  have hfn : (kFront s.a k).Nodup := kFront_nodup k ha
  obtain ⟨f, hf⟩ : ∃ f, kFront s.a k = f := ⟨_, rfl⟩
  have hmem : ∀ c, c ∈ f ↔ c = k ∨ c ∈ s.a := fun c => by rw [← hf]; exact mem_kFront
  have e : s.again k = ({ s with a := f.take t, marks := s.marks.put k (true, false) } : Sr).demote (f.drop t).reverse := by
    unfold Sr.again
    dsimp only
    rw [hf, ht]
  rw [hf] at hfn
  obtain ⟨s1, hs1⟩ : ∃ s1, ({ s with a := f.take t, marks := s.marks.put k (true, false) } : Sr) = s1 := ⟨_, rfl⟩
  rw [e, hs1]
  have en : s1.n = s.n := by rw [← hs1]
  have ea : s1.a = f.take t := by rw [← hs1]
  have eg : s1.g = s.g := by rw [← hs1]
  have em : s1.marks = s.marks.put k (true, false) := by rw [← hs1]
  obtain ⟨d1, d2, d3⟩ := Sr.demote_inv (f.drop t).reverse s1 (by rw [en]; exact hn)
  obtain ⟨_, q1, q2⟩ := Sr.demote_fit (f.drop t).reverse s1
  obtain ⟨s2, hs2⟩ : ∃ s2, s1.demote (f.drop t).reverse = s2 := ⟨_, rfl⟩
  rw [hs2] at d1 d2 d3 q1 q2 ⊢
  rw [ea] at q1
  rw [eg] at q2
  rw [en] at d2
  rw [em] at d3
  have hd : ∀ c, c ∈ s2.n ↔ c ∈ f.drop t ∨ c ∈ s.n := fun c => by rw [d2, List.mem_reverse]
  have htd := mem_take_drop hfn t
  refine ⟨⟨d1, ?_, ?_, fun c hc hc2 => ?_, fun c hc hc2 => ?_, fun c hc hc2 => ?_, fun c => ?_⟩, fun c => ?_⟩
  · rw [q1]; exact nodup_take hfn t
  · rw [q2]; exact hg
  · rw [q1] at hc2
    rcases (hd c).1 hc with h | h
    · exact (htd c).2 hc2 h
    · rcases (hmem c).1 (List.mem_of_mem_take hc2) with rfl | h'
      · exact hk.1 h
      · exact hna c h h'
  · rw [q2] at hc2
    rcases (hd c).1 hc with h | h
    · rcases (hmem c).1 (List.mem_of_mem_drop h) with rfl | h'
      · exact hk.2.2 hc2
      · exact hag c h' hc2
    · exact hng c h hc2
  · rw [q1] at hc
    rw [q2] at hc2
    rcases (hmem c).1 (List.mem_of_mem_take hc) with rfl | h'
    · exact hk.2.2 hc2
    · exact hag c h' hc2
  · rw [d3, TMap.has_put, List.mem_reverse, hd, q1, q2]
    have h1 := (htd c).1
    rw [hmem] at h1
    by_cases hck : c = k
    · have := h1.1 (.inl hck)
      constructor
      · intro _
        rcases this with h | h
        · exact .inr (.inl h)
        · exact .inl (.inl h)
      · intro _
        exact .inr (.inl hck)
    · have h2 := hm c hck
      rw [h2]
      constructor
      · rintro (h | h | h | h | h)
        · exact .inl (.inl h)
        · exact absurd h hck
        · exact .inl (.inr h)
        · rcases h1.1 (.inr h) with h | h
          · exact .inr (.inl h)
          · exact .inl (.inl h)
        · exact .inr (.inr h)
      · rintro ((h | h) | h | h)
        · exact .inl h
        · exact .inr (.inr (.inl h))
        · rcases h1.2 (.inl h) with h | h
          · exact absurd h hck
          · exact .inr (.inr (.inr (.inl h)))
        · exact .inr (.inr (.inr (.inr h)))
  · rw [Sr.mem_res, Sr.mem_res, hd, q1]
    have h1 := (htd c).1
    rw [hmem] at h1
    constructor
    · rintro ((h | h) | h)
      · rcases h1.2 (.inr h) with h | h
        · exact .inl h
        · exact .inr (.inr h)
      · exact .inr (.inl h)
      · rcases h1.2 (.inl h) with h | h
        · exact .inl h
        · exact .inr (.inr h)
    · rintro (h | h | h)
      · rcases h1.1 (.inl h) with h | h
        · exact .inr h
        · exact .inl (.inl h)
      · exact .inl (.inr h)
      · rcases h1.1 (.inr h) with h | h
        · exact .inr h
        · exact .inl (.inl h)
theorem Sr.row_mem {s : Sr} (h : s.row ≠ []) : kLast s.row ∈ s.res := by
  have h1 := kLast_mem h
  rw [Sr.mem_res]
  unfold Sr.row at h1 ⊢
  split at h1
  · rename_i hn; rw [if_pos hn]; exact .inl h1
  · rename_i hn; rw [if_neg hn]; exact .inr h1
theorem Sr.row_nil {s : Sr} : s.row = [] ↔ s.res = [] := by
  unfold Sr.row Sr.res
  split
  · rename_i h
    have := List.length_pos_iff.1 h
    simp [this]
  · rename_i h
    have : s.n = [] := List.length_eq_zero_iff.1 (by omega)
    simp [this]
theorem Sr.evict_inv {s : Sr} (h : s.Inv) (hr : s.row ≠ []) : s.evict.Inv ∧ (∀ c, c ∈ s.evict.res ↔ c ∈ s.res ∧ c ≠ kLast s.row) := by
  have hv := Sr.row_mem hr
  rw [Sr.mem_res] at hv
  have hpop : s.popRow.n.Nodup ∧ s.popRow.a.Nodup ∧ s.popRow.g = s.g ∧ s.popRow.marks = s.marks ∧ (∀ c, c ∈ s.popRow.n ↔ c ∈ s.n ∧ c ≠ kLast s.row) ∧ (∀ c, c ∈ s.popRow.a ↔ c ∈ s.a ∧ c ≠ kLast s.row) := by
    unfold Sr.popRow
    unfold Sr.row at hr ⊢
    split
    · rename_i hn
      rw [if_pos hn] at hr
      refine ⟨nodup_dropLast h.n, h.a, rfl, rfl, fun c => mem_dropLast h.n hr, fun c => ?_⟩
      constructor
      · exact fun hc => ⟨hc, fun e => h.na _ (kLast_mem hr) (e ▸ hc)⟩
      · exact fun hc => hc.1
    · rename_i hn
      rw [if_neg hn] at hr
      refine ⟨h.n, nodup_dropLast h.a, rfl, rfl, fun c => ?_, fun c => mem_dropLast h.a hr⟩
      constructor
      · exact fun hc => ⟨hc, fun e => h.na c hc (e ▸ kLast_mem hr)⟩
      · exact fun hc => hc.1
  obtain ⟨p1, p2, p3, p4, p5, p6⟩ := hpop
  obtain ⟨v, hv'⟩ : ∃ v, kLast s.row = v := ⟨_, rfl⟩
  rw [hv'] at hv p5 p6 ⊢
  have hvg : v ∉ s.g := by
    rcases hv with h1 | h1
    · exact h.ng v h1
    · exact h.ag v h1
  have ef := kFront_new hvg
  have hfn : (v :: s.g).Nodup := List.nodup_cons.2 ⟨hvg, h.g⟩
  have e : s.evict = { s.popRow with g := (v :: s.g).take s.most, marks := delAll s.marks ((v :: s.g).drop s.most).reverse } := by
    unfold Sr.evict
    rw [if_neg hr, hv']
    unfold Sr.trim
    dsimp only
    rw [ef, p4]
    have : s.popRow.most = s.most := by unfold Sr.popRow; split <;> rfl
    rw [this]
  have htd := mem_take_drop hfn s.most
  rw [e]
  refine ⟨⟨p1, p2, nodup_take hfn _, fun c hc hc2 => h.na c ((p5 c).1 hc).1 ((p6 c).1 hc2).1, fun c hc hc2 => ?_, fun c hc hc2 => ?_, fun c => ?_⟩, fun c => ?_⟩
  · rcases List.mem_cons.1 (List.mem_of_mem_take hc2) with rfl | h1
    · exact ((p5 c).1 hc).2 rfl
    · exact h.ng c ((p5 c).1 hc).1 h1
  · rcases List.mem_cons.1 (List.mem_of_mem_take hc2) with rfl | h1
    · exact ((p6 c).1 hc).2 rfl
    · exact h.ag c ((p6 c).1 hc).1 h1
  · dsimp only
    rw [delAll_has, List.mem_reverse, h.marks, p5, p6]
    have h1 := (htd c).1
    have h2 := (htd c).2
    rw [List.mem_cons] at h1
    by_cases hcv : c = v
    · subst hcv
      constructor
      · rintro ⟨_, h3⟩
        rcases h1.1 (.inl rfl) with h4 | h4
        · exact .inr (.inr h4)
        · exact absurd h4 h3
      · rintro (h3 | h3 | h3)
        · exact absurd rfl h3.2
        · exact absurd rfl h3.2
        · refine ⟨?_, h2 h3⟩
          rcases hv with h4 | h4
          · exact .inl h4
          · exact .inr (.inl h4)
    · constructor
      · rintro ⟨h3 | h3 | h3, h4⟩
        · exact .inl ⟨h3, hcv⟩
        · exact .inr (.inl ⟨h3, hcv⟩)
        · rcases h1.1 (.inr h3) with h5 | h5
          · exact .inr (.inr h5)
          · exact absurd h5 h4
      · rintro (h3 | h3 | h3)
        · refine ⟨.inl h3.1, fun h4 => ?_⟩
          rcases h1.2 (.inr h4) with h5 | h5
          · exact hcv h5
          · exact h.ng c h3.1 h5
        · refine ⟨.inr (.inl h3.1), fun h4 => ?_⟩
          rcases h1.2 (.inr h4) with h5 | h5
          · exact hcv h5
          · exact h.ag c h3.1 h5
        · rcases h1.2 (.inl h3) with h5 | h5
          · exact absurd h5 hcv
          · exact ⟨.inr (.inr h5), h2 h3⟩
  · rw [Sr.mem_res, Sr.mem_res]
    show c ∈ s.popRow.n ∨ c ∈ s.popRow.a ↔ _
    rw [p5, p6]
    constructor
    · rintro (h1 | h1)
      · exact ⟨.inl h1.1, h1.2⟩
      · exact ⟨.inr h1.1, h1.2⟩
    · rintro ⟨h1 | h1, h2⟩
      · exact .inl ⟨h1, h2⟩
      · exact .inr ⟨h1, h2⟩
theorem Sr.evict_most (s : Sr) : s.evict.most = s.most := (Sr.evict_fit s).2.most
/-- A key is put at the front of the first row. -/
theorem Sr.front_inv {s : Sr} (h : s.Inv) (k : ByteArray) (hk : k ∉ s.res) : ({ s with g := kDel s.g k, n := kFront s.n k, marks := s.marks.put k (false, false) } : Sr).Inv ∧ (∀ c, c ∈ ({ s with g := kDel s.g k, n := kFront s.n k, marks := s.marks.put k (false, false) } : Sr).res ↔ c = k ∨ c ∈ s.res) := by
  rw [Sr.mem_res] at hk
  refine ⟨⟨kFront_nodup k h.n, h.a, kDel_nodup k h.g, fun c hc hc2 => ?_, fun c hc hc2 => ?_, fun c hc hc2 => ?_, fun c => ?_⟩, fun c => ?_⟩
  · rcases mem_kFront.1 hc with rfl | h1
    · exact hk (.inr hc2)
    · exact h.na c h1 hc2
  · obtain ⟨h3, h4⟩ := kDel_mem.1 hc2
    rcases mem_kFront.1 hc with rfl | h1
    · exact h4 rfl
    · exact h.ng c h1 h3
  · exact h.ag c hc (kDel_sub hc2)
  · dsimp only
    rw [TMap.has_put, h.marks, mem_kFront, kDel_mem]
    by_cases hc : c = k
    · simp [hc]
    · simp [hc]
  · rw [Sr.mem_res, Sr.mem_res]
    dsimp only
    rw [mem_kFront]
    constructor
    · rintro ((h1 | h1) | h1)
      · exact .inl h1
      · exact .inr (.inl h1)
      · exact .inr (.inr h1)
    · rintro (h1 | h1 | h1)
      · exact .inl (.inl h1)
      · exact .inl (.inr h1)
      · exact .inr h1
/-- A ghost that is one no more, but for its mark. -/
theorem Sr.ghost_inv {s : Sr} (h : s.Inv) (k : ByteArray) (t : Nat) : ({ s with target := t, g := kDel s.g k } : Sr).n.Nodup := h.n
theorem Sr.remove_inv {s : Sr} (h : s.Inv) (k : ByteArray) : (s.remove k).Inv ∧ (∀ c, c ∈ (s.remove k).res ↔ c ∈ s.res ∧ c ≠ k) := by
  have ea : (if k ∈ s.n then s.a else kDel s.a k) = kDel s.a k := by
    split
    · rename_i h1
      exact (kDel_none (h.na k h1)).symm
    · rfl
  unfold Sr.remove
  rw [ea]
  refine ⟨⟨kDel_nodup k h.n, kDel_nodup k h.a, kDel_nodup k h.g, fun c hc hc2 => h.na c (kDel_sub hc) (kDel_sub hc2), fun c hc hc2 => h.ng c (kDel_sub hc) (kDel_sub hc2), fun c hc hc2 => h.ag c (kDel_sub hc) (kDel_sub hc2), fun c => ?_⟩, fun c => ?_⟩
  · dsimp only
    rw [TMap.has_del, h.marks, kDel_mem, kDel_mem, kDel_mem]
    constructor
    · rintro ⟨h1 | h1 | h1, h2⟩
      · exact .inl ⟨h1, h2⟩
      · exact .inr (.inl ⟨h1, h2⟩)
      · exact .inr (.inr ⟨h1, h2⟩)
    · rintro (h1 | h1 | h1)
      · exact ⟨.inl h1.1, h1.2⟩
      · exact ⟨.inr (.inl h1.1), h1.2⟩
      · exact ⟨.inr (.inr h1.1), h1.2⟩
  · rw [Sr.mem_res, Sr.mem_res]
    dsimp only
    rw [kDel_mem, kDel_mem]
    constructor
    · rintro (h1 | h1)
      · exact ⟨.inl h1.1, h1.2⟩
      · exact ⟨.inr h1.1, h1.2⟩
    · rintro ⟨h1 | h1, h2⟩
      · exact .inl ⟨h1, h2⟩
      · exact .inr ⟨h1, h2⟩
end Go.Proofs.YtbbdimlpofjlfaaGreatDoor
/- Who is resident in a policy and in a learner, whatever is asked: no program in sight. -/
namespace Go.Proofs.YtbbdimlpofjlfaaGreatDoor
open Go Go.RowKit

/-! ### lfu -/
structure Lfu.Inv (s : Lfu) : Prop where
  nd : (hKeys s.srt).Nodup
  sorted : HSorted s.srt
  cames : ∀ x ∈ s.srt, x.came ≤ s.came
  now : 0 ≤ s.now
  ones : ∀ x ∈ s.srt, 1 ≤ x.one
theorem Lfu.times_pos {s : Lfu} (h : s.Inv) (k : ByteArray) : 0 ≤ s.times k ∧ (0 < s.times k ↔ k ∈ hKeys s.srt) := by
  unfold Lfu.times
  cases hf : hFind s.srt k with
  | none =>
    refine ⟨Int.le_refl _, fun h0 => absurd h0 (by decide), fun hk => ?_⟩
    exfalso
    obtain ⟨x, hx, hxk⟩ := List.mem_map.1 hk
    unfold hFind at hf
    rw [List.find?_eq_none] at hf
    exact hf x hx (by simpa using hxk)
  | some x =>
    have hx := List.mem_of_find?_eq_some hf
    have h1 := h.ones x hx
    have h2 : x.key = k := by
      unfold hFind at hf
      simpa using List.find?_some hf
    refine ⟨?_, fun _ => ?_, fun _ => ?_⟩
    · show 0 ≤ x.one; omega
    · rw [← h2]; exact List.mem_map_of_mem hx
    · show 0 < x.one; omega
theorem Lfu.has_res {s : Lfu} (h : s.Inv) (k : ByteArray) : s.has k = decide (k ∈ hKeys s.srt) := by
  unfold Lfu.has
  exact decide_eq_decide.2 (Lfu.times_pos h k).2
theorem Lfu.ask_inv {s : Lfu} (h : s.Inv) (k : ByteArray) : (s.ask k).Inv ∧ (∀ c, c ∈ hKeys (s.ask k).srt ↔ c = k ∨ c ∈ hKeys s.srt) := by
  have ht := (Lfu.times_pos h k).1
  have hn := h.now
  refine ⟨⟨hSet_knd h.nd, hSet_sorted h.sorted h.cames, hSet_cames h.cames, by show 0 ≤ s.now + 1; omega, fun x hx => ?_⟩, fun c => ?_⟩
  · have hx' : x ∈ hSet s.srt s.came k (s.times k + 1) (if s.churn then -(s.now + 1) else s.now + 1) := hx
    unfold hSet at hx'
    rcases List.mem_cons.1 ((hIns_perm _ _).mem_iff.1 hx') with rfl | hx2
    · dsimp only
      omega
    · exact h.ones x (List.mem_filter.1 hx2).1
  · refine (hSet_keys (k := k) (c := c)).trans ?_
    show c = k ∨ (c ∈ hKeys s.srt ∧ c ≠ k) ↔ _
    by_cases hc : c = k
    · simp [hc]
    · simp [hc]
theorem Lfu.pop_inv {s : Lfu} (h : s.Inv) (hne : s.srt ≠ []) : s.pop.Inv ∧ (∀ c, c ∈ hKeys s.pop.srt ↔ c ∈ hKeys s.srt ∧ c ≠ hFirst s.srt) := by
  have ho := h.ones
  have hc := h.cames
  have hn := h.nd
  have hs := h.sorted
  have e : s.pop.srt = s.srt.tail := rfl
  cases hl : s.srt with
  | nil => exact absurd hl hne
  | cons x l =>
    rw [hl] at ho hc hn hs e
    rw [List.tail_cons] at e
    unfold hKeys at hn
    rw [List.map_cons, List.nodup_cons] at hn
    rw [HSorted, List.pairwise_cons] at hs
    refine ⟨⟨by rw [e]; exact hn.2, by rw [e]; exact hs.2, fun y hy => hc y (by rw [e] at hy; exact List.mem_cons_of_mem _ hy), h.now, fun y hy => ho y (by rw [e] at hy; exact List.mem_cons_of_mem _ hy)⟩, fun c => ?_⟩
    rw [e]
    show c ∈ hKeys l ↔ c ∈ x.key :: hKeys l ∧ c ≠ x.key
    rw [List.mem_cons]
    constructor
    · exact fun hc => ⟨.inr hc, fun he => hn.1 (he ▸ hc)⟩
    · rintro ⟨h1 | h1, h2⟩
      · exact absurd h1 h2
      · exact h1
theorem hFirst_mem {l : List HE} (h : l ≠ []) : hFirst l ∈ hKeys l := by
  cases l with
  | nil => exact absurd rfl h
  | cons x l => exact List.mem_cons_self
theorem hKeys_len (l : List HE) : (hKeys l).length = l.length := List.length_map _
theorem hKeys_nil {l : List HE} : hKeys l = [] ↔ l = [] := List.map_eq_nil_iff
theorem Lfu.remove_inv {s : Lfu} (h : s.Inv) (k : ByteArray) : (s.remove k).Inv ∧ (∀ c, c ∈ hKeys (s.remove k).srt ↔ c ∈ hKeys s.srt ∧ c ≠ k) :=
  ⟨⟨hDel_knd k h.nd, h.sorted.filter _, fun x hx => h.cames x (List.mem_filter.1 hx).1, h.now, fun x hx => h.ones x (List.mem_filter.1 hx).1⟩, fun _ => hDel_keys⟩
/-! ### A policy -/
def Pol.res : Pol → List ByteArray
  | .lru s => s.ks
  | .lfu s => hKeys s.srt
  | .sr s => s.res
def Pol.most : Pol → Nat
  | .lru s => s.most
  | .lfu s => s.most
  | .sr s => s.most
def Pol.Inv : Pol → Prop
  | .lru s => s.ks.Nodup
  | .lfu s => s.Inv
  | .sr s => s.Inv
theorem Pol.Fit.most {i m : Nat} {p : Pol} (h : p.Fit i m) : p.most = m := by
  cases p with
  | lru s => exact h.2
  | lfu s => exact h.2.2
  | sr s => exact Sr.Fit.most h
theorem Pol.Inv.nodup {p : Pol} (h : p.Inv) : p.res.Nodup := by
  cases p with
  | lru s => exact h
  | lfu s => exact Lfu.Inv.nd h
  | sr s => exact Sr.Inv.nodup h
theorem Pol.has_res {p : Pol} (h : p.Inv) (k : ByteArray) : p.has k = decide (k ∈ p.res) := by
  cases p with
  | lru s => rfl
  | lfu s => exact Lfu.has_res h k
  | sr s =>
    show (decide (k ∈ s.n) || decide (k ∈ s.a)) = decide (k ∈ s.res)
    rw [← Bool.decide_or]
    exact decide_eq_decide.2 Sr.mem_res.symm
theorem Pol.len_res (p : Pol) : p.len = p.res.length := by
  cases p with
  | lru s => rfl
  | lfu s => exact (hKeys_len _).symm
  | sr s => exact (List.length_append).symm
theorem Pol.keys_res (p : Pol) : (∀ c, c ∈ p.keys ↔ c ∈ p.res) ∧ p.keys.length = p.res.length := by
  cases p with
  | lru s => exact ⟨fun c => List.mem_reverse, List.length_reverse⟩
  | lfu s => exact ⟨fun c => Iff.rfl, rfl⟩
  | sr s =>
    show (∀ c, c ∈ s.n.reverse ++ s.a.reverse ↔ c ∈ s.n ++ s.a) ∧ (s.n.reverse ++ s.a.reverse).length = (s.n ++ s.a).length
    refine ⟨fun c => by rw [List.mem_append, List.mem_append, List.mem_reverse, List.mem_reverse], by rw [List.length_append, List.length_append, List.length_reverse, List.length_reverse]⟩
theorem Pol.victim_res (p : Pol) : p.victim.2 = !p.res.isEmpty ∧ (p.res ≠ [] → p.victim.1 ∈ p.res) := by
  cases p with
  | lru s => exact ⟨rfl, fun h => kLast_mem h⟩
  | lfu s =>
    refine ⟨?_, fun h => hFirst_mem (fun e => h (hKeys_nil.2 e))⟩
    show (!s.srt.isEmpty) = !(hKeys s.srt).isEmpty
    cases s.srt <;> rfl
  | sr s =>
    refine ⟨?_, fun h => Sr.row_mem (fun e => h (Sr.row_nil.1 e))⟩
    show (!s.row.isEmpty) = !s.res.isEmpty
    rw [Bool.eq_iff_iff]
    simp only [Bool.not_eq_true', List.isEmpty_eq_false_iff]
    exact not_congr Sr.row_nil
theorem Pol.remove_res {p : Pol} (h : p.Inv) (k : ByteArray) : (p.remove k).Inv ∧ (∀ c, c ∈ (p.remove k).res ↔ c ∈ p.res ∧ c ≠ k) := by
  cases p with
  | lru s => exact ⟨kDel_nodup k h, fun c => kDel_mem⟩
  | lfu s => exact Lfu.remove_inv h k
  | sr s => exact Sr.remove_inv h k
theorem Pol.adopt_res {p : Pol} (h : p.Inv) (k : ByteArray) (hk : k ∉ p.res) (hl : p.res.length < p.most) : (p.adopt k).1.Inv ∧ (∀ c, c ∈ (p.adopt k).1.res ↔ c = k ∨ c ∈ p.res) ∧ (p.adopt k).2 = true := by
  cases p with
  | lru s =>
    have hl' : s.ks.length < s.most := hl
    have hk' : k ∉ s.ks := hk
    have e : s.adopt k = (⟨s.most, kFront s.ks k⟩, true) := if_neg (fun hc => hc.elim hk' (fun h => absurd h (by omega)))
    show Pol.Inv (.lru (s.adopt k).1) ∧ (∀ c, c ∈ (s.adopt k).1.ks ↔ _) ∧ (s.adopt k).2 = true
    rw [e]
    exact ⟨kFront_nodup k h, fun c => mem_kFront, rfl⟩
  | lfu s =>
    have hl' : s.srt.length < s.most := by rw [← hKeys_len]; exact hl
    have e : s.adopt k = (s.ask k, true) := if_neg (fun hc => hc.elim (fun h1 => by rw [Lfu.has_res h, decide_eq_true_iff] at h1; exact hk h1) (fun h => absurd h (by omega)))
    show Pol.Inv (.lfu (s.adopt k).1) ∧ (∀ c, c ∈ hKeys (s.adopt k).1.srt ↔ _) ∧ (s.adopt k).2 = true
    rw [e]
    exact ⟨(Lfu.ask_inv h k).1, (Lfu.ask_inv h k).2, rfl⟩
  | sr s =>
    have hh := Pol.has_res (p := .sr s) h k
    have hl' : s.len < s.most := by have := Pol.len_res (.sr s); show Pol.len (.sr s) < _; rw [this]; exact hl
    have e : s.adopt k = ({ s with g := kDel s.g k, n := kFront s.n k, marks := s.marks.put k (false, false) }, true) := if_neg (fun hc => hc.elim (fun h1 => by
      have h2 : s.has k = decide (k ∈ Pol.res (.sr s)) := hh
      rw [h2, decide_eq_true_iff] at h1; exact hk h1) (fun h => absurd h (by omega)))
    show Pol.Inv (.sr (s.adopt k).1) ∧ (∀ c, c ∈ (s.adopt k).1.res ↔ _) ∧ (s.adopt k).2 = true
    rw [e]
    exact ⟨(Sr.front_inv h k hk).1, (Sr.front_inv h k hk).2, rfl⟩
/-- A hit. -/
theorem Pol.hit_res {p : Pol} (h : p.Inv) (k : ByteArray) (hk : k ∈ p.res) (hm : p.most ≠ 0) : (p.req k).1.Inv ∧ (∀ c, c ∈ (p.req k).1.res ↔ c ∈ p.res) ∧ (p.req k).2 = ⟨true, bNil, false⟩ := by
  have or_k : ∀ {l : List ByteArray}, k ∈ l → ∀ c, c = k ∨ c ∈ l ↔ c ∈ l := fun hk c => ⟨fun h => h.elim (fun e => e ▸ hk) id, .inr⟩
  cases p with
  | lru s =>
    have hm' : s.most ≠ 0 := hm
    have hk' : k ∈ s.ks := hk
    have e : s.req k = (⟨s.most, kFront s.ks k⟩, ⟨true, bNil, false⟩) := by unfold Lru.req; rw [if_neg hm', if_pos hk']
    show Pol.Inv (.lru (s.req k).1) ∧ (∀ c, c ∈ (s.req k).1.ks ↔ c ∈ s.ks) ∧ (s.req k).2 = _
    rw [e]
    exact ⟨kFront_nodup k h, fun c => mem_kFront.trans (or_k hk' c), rfl⟩
  | lfu s =>
    have hm' : s.most ≠ 0 := hm
    have e : s.req k = (s.ask k, ⟨true, bNil, false⟩) := by unfold Lfu.req; rw [if_neg hm', if_pos (by rw [Lfu.has_res h]; exact decide_eq_true hk)]
    show Pol.Inv (.lfu (s.req k).1) ∧ (∀ c, c ∈ hKeys (s.req k).1.srt ↔ c ∈ hKeys s.srt) ∧ (s.req k).2 = _
    rw [e]
    exact ⟨(Lfu.ask_inv h k).1, fun c => ((Lfu.ask_inv h k).2 c).trans (or_k hk c), rfl⟩
  | sr s =>
    have hm' : s.most ≠ 0 := hm
    have hk' := Sr.mem_res.1 (show k ∈ s.res from hk)
    have hi : s.Inv := h
    show Pol.Inv (.sr (s.req k).1) ∧ (∀ c, c ∈ (s.req k).1.res ↔ c ∈ s.res) ∧ (s.req k).2 = _
    unfold Sr.req
    rw [if_neg hm']
    by_cases ha : k ∈ s.a
    · rw [if_pos ha]
      refine ⟨⟨hi.n, kFront_nodup k hi.a, hi.g, fun c hc hc2 => ?_, hi.ng, fun c hc hc2 => ?_, fun c => ?_⟩, fun c => ?_, rfl⟩
      · exact hi.na c hc (((mem_kFront).trans (or_k ha c)).1 hc2)
      · exact hi.ag c (((mem_kFront).trans (or_k ha c)).1 hc) hc2
      · dsimp only
        rw [hi.marks, mem_kFront, or_k ha c]
      · rw [Sr.mem_res, Sr.mem_res]
        dsimp only
        rw [mem_kFront, or_k ha c]
    · have hn : k ∈ s.n := hk'.elim id (fun h => absurd h ha)
      rw [if_neg ha, if_pos hn]
      obtain ⟨t, ht⟩ : ∃ t, (if ((s.marks.get k).getD (false, false)).2 then min (s.target + 1) s.most else s.target) = t := ⟨_, rfl⟩
      rw [ht]
      obtain ⟨h1, h2⟩ := Sr.again_inv (s := { s with target := t, n := kDel s.n k }) (kDel_nodup k hi.n) hi.a hi.g (fun c hc => hi.na c (kDel_sub hc)) (fun c hc => hi.ng c (kDel_sub hc)) hi.ag k
        ⟨fun h => (kDel_mem.1 h).2 rfl, ha, hi.ng k hn⟩ (fun c hc => by
          dsimp only
          rw [hi.marks, kDel_mem]
          simp [hc])
      refine ⟨h1, fun c => ?_, rfl⟩
      dsimp only
      rw [h2, Sr.mem_res, Sr.mem_res]
      dsimp only
      rw [kDel_mem]
      by_cases hc : c = k
      · subst hc
        simp [hn]
      · simp [hc]
/-! ### A learner -/
/-- What holds of a learner, but for the lengths of its rows of ghosts. -/
structure Ln.Inv0 (s : Ln) : Prop where
  a : s.A.Inv
  b : s.B.Inv
  same : ∀ c, c ∈ s.A.res ↔ c ∈ s.B.res
  am : s.A.most = s.most
  bm : s.B.most = s.most
  len : s.A.res.length ≤ s.most
  ga : s.GA.Nodup
  gb : s.GB.Nodup
  gg : ∀ c ∈ s.GA, c ∉ s.GB
  gra : ∀ c ∈ s.GA, c ∉ s.A.res
  grb : ∀ c ∈ s.GB, c ∉ s.A.res
  went : ∀ c, s.went.has c = true ↔ c ∈ s.GA ∨ c ∈ s.GB
structure Ln.Inv (s : Ln) : Prop extends Ln.Inv0 s where
  gal : s.GA.length ≤ s.most
  gbl : s.GB.length ≤ s.most
theorem Ln.Inv0.lens {s : Ln} (h : s.Inv0) : s.B.res.length = s.A.res.length := same_len h.b.nodup h.a.nodup (fun c => (h.same c).symm)
theorem Ln.Inv0.has {s : Ln} (h : s.Inv0) (k : ByteArray) : s.has k = decide (k ∈ s.A.res) := Pol.has_res h.a k
theorem Ln.len_res (s : Ln) : s.len = s.A.res.length := Pol.len_res _
/-- The rows of ghosts, and when they went, alone differ. -/
theorem Ln.forget_inv {s : Ln} (h : s.Inv) (k : ByteArray) : (s.forget k).Inv where
  a := h.a
  b := h.b
  same := h.same
  am := h.am
  bm := h.bm
  len := h.len
  ga := kDel_nodup k h.ga
  gb := kDel_nodup k h.gb
  gg := fun c hc hc2 => h.gg c (kDel_sub hc) (kDel_sub hc2)
  gra := fun c hc => h.gra c (kDel_sub hc)
  grb := fun c hc => h.grb c (kDel_sub hc)
  went := fun c => by
    show (s.went.del k).has c = true ↔ c ∈ kDel s.GA k ∨ c ∈ kDel s.GB k
    rw [TMap.has_del, h.went, kDel_mem, kDel_mem]
    constructor
    · rintro ⟨h1 | h1, h2⟩
      · exact .inl ⟨h1, h2⟩
      · exact .inr ⟨h1, h2⟩
    · rintro (h1 | h1)
      · exact ⟨.inl h1.1, h1.2⟩
      · exact ⟨.inr h1.1, h1.2⟩
  gal := Nat.le_trans (kDel_len _ _) h.gal
  gbl := Nat.le_trans (kDel_len _ _) h.gbl
theorem Ln.forget_not (s : Ln) (k : ByteArray) : k ∉ (s.forget k).GA ∧ k ∉ (s.forget k).GB := ⟨fun h => (kDel_mem.1 h).2 rfl, fun h => (kDel_mem.1 h).2 rfl⟩
theorem Ln.Inv.clock {s : Ln} (h : s.Inv) (c : Int) : ({ s with clock := c } : Ln).Inv := ⟨⟨h.a, h.b, h.same, h.am, h.bm, h.len, h.ga, h.gb, h.gg, h.gra, h.grb, h.went⟩, h.gal, h.gbl⟩
theorem Ln.regret_not {s : Ln} (h : s.Inv) (k : ByteArray) (hk : k ∉ s.GA ∧ k ∉ s.GB) : s.regret k = s := by
  have h1 : s.went.get k = none := by
    have h2 : ¬ s.went.has k = true := fun h2 => ((h.went k).1 h2).elim hk.1 hk.2
    rw [TMap.has_get] at h2
    cases hg : s.went.get k with
    | none => rfl
    | some v => rw [hg] at h2; exact absurd rfl h2
  unfold Ln.regret
  rw [h1]
theorem Ln.regret_yes {s : Ln} (h : s.Inv) (k : ByteArray) (hk : k ∈ s.GA ∨ k ∈ s.GB) : ∃ f, s.regret k = Ln.forget { s with w := if k ∈ s.GA then fshare (fmul s.w (ffall f)) (fOne - s.w) (fpart 1 100) else fshare s.w (fmul (fOne - s.w) (ffall f)) (fpart 1 100) } k := by
  have h1 := (h.went k).2 hk
  rw [TMap.has_get] at h1
  obtain ⟨t, ht⟩ := Option.isSome_iff_exists.1 h1
  unfold Ln.regret
  rw [ht]
  dsimp only
  by_cases hg : k ∈ s.GA
  · simp only [if_pos hg]
    exact ⟨_, rfl⟩
  · simp only [if_neg hg]
    exact ⟨_, rfl⟩
theorem Ln.regret_inv {s : Ln} (h : s.Inv) (k : ByteArray) : (s.regret k).Inv ∧ (k ∉ (s.regret k).GA ∧ k ∉ (s.regret k).GB) ∧ (s.regret k).A = s.A ∧ (s.regret k).B = s.B ∧ (∀ c, c ≠ k → (c ∈ (s.regret k).GA ↔ c ∈ s.GA) ∧ (c ∈ (s.regret k).GB ↔ c ∈ s.GB)) := by
  by_cases hk : k ∈ s.GA ∨ k ∈ s.GB
  · obtain ⟨f, hf⟩ := Ln.regret_yes h k hk
    rw [hf]
    have h' : ({ s with w := if k ∈ s.GA then fshare (fmul s.w (ffall f)) (fOne - s.w) (fpart 1 100) else fshare s.w (fmul (fOne - s.w) (ffall f)) (fpart 1 100) } : Ln).Inv := ⟨⟨h.a, h.b, h.same, h.am, h.bm, h.len, h.ga, h.gb, h.gg, h.gra, h.grb, h.went⟩, h.gal, h.gbl⟩
    refine ⟨Ln.forget_inv h' k, Ln.forget_not _ k, rfl, rfl, fun c hc => ⟨kDel_mem.trans (and_iff_left hc), kDel_mem.trans (and_iff_left hc)⟩⟩
  · have hk' : k ∉ s.GA ∧ k ∉ s.GB := ⟨fun h => hk (.inl h), fun h => hk (.inr h)⟩
    rw [Ln.regret_not h k hk']
    exact ⟨h, hk', rfl, rfl, fun c _ => ⟨Iff.rfl, Iff.rfl⟩⟩
theorem Pol.remove_most (p : Pol) (k : ByteArray) : (p.remove k).most = p.most := by cases p <;> rfl
theorem Pol.adopt_most (p : Pol) (k : ByteArray) : (p.adopt k).1.most = p.most := by
  cases p with
  | lru s => show (s.adopt k).1.most = s.most; unfold Lru.adopt; split <;> rfl
  | lfu s => show (s.adopt k).1.most = s.most; unfold Lfu.adopt; split <;> rfl
  | sr s => show (s.adopt k).1.most = s.most; unfold Sr.adopt; split <;> rfl
theorem Sr.req_most (s : Sr) (k : ByteArray) : (s.req k).1.most = s.most := by
  unfold Sr.req
  split
  · rfl
  split
  · rfl
  split
  · exact (Sr.again_fit _ k).2.most
  · dsimp only
    obtain ⟨t, ht⟩ : ∃ t, (if s.marks.has k = true ∧ ((s.marks.get k).getD (false, false)).1 = false ∧ 1 < s.target then s.target - 1 else s.target) = t := ⟨_, rfl⟩
    rw [ht]
    obtain ⟨full, hfull⟩ : ∃ f, decide (s.most ≤ ({ s with target := t, g := kDel s.g k } : Sr).len) = f := ⟨_, rfl⟩
    rw [hfull]
    obtain ⟨s1, hs1⟩ : ∃ s1, ({ s with target := t, g := kDel s.g k } : Sr) = s1 := ⟨_, rfl⟩
    rw [hs1]
    have h1 : s1.most = s.most := by rw [← hs1]
    have h2 : (if full = true then s1.evict else s1).most = s.most := by
      split
      · exact (Sr.evict_most s1).trans h1
      · exact h1
    obtain ⟨s2, hs2⟩ : ∃ s2, (if full = true then s1.evict else s1) = s2 := ⟨_, rfl⟩
    rw [hs2] at h2 ⊢
    split
    · exact (Sr.again_fit s2 k).2.most.trans h2
    · exact h2
theorem Pol.req_most (p : Pol) (k : ByteArray) : (p.req k).1.most = p.most := by
  cases p with
  | lru s => show (s.req k).1.most = s.most; unfold Lru.req; (repeat' split) <;> rfl
  | lfu s => show (s.req k).1.most = s.most; unfold Lfu.req; (repeat' split) <;> rfl
  | sr s => exact Sr.req_most s k
theorem Ln.gone_inv0 {s : Ln} (h : s.Inv0) (k : ByteArray) : (s.gone k).Inv0 ∧ (∀ c, c ∈ (s.gone k).A.res ↔ c ∈ s.A.res ∧ c ≠ k) := by
  obtain ⟨a1, a2⟩ := Pol.remove_res h.a k
  obtain ⟨b1, b2⟩ := Pol.remove_res h.b k
  refine ⟨⟨a1, b1, fun c => ?_, (Pol.remove_most _ _).trans h.am, (Pol.remove_most _ _).trans h.bm, ?_, h.ga, h.gb, h.gg, fun c hc hc2 => h.gra c hc ((a2 c).1 hc2).1, fun c hc hc2 => h.grb c hc ((a2 c).1 hc2).1, h.went⟩, a2⟩
  · show c ∈ (s.A.remove k).res ↔ c ∈ (s.B.remove k).res
    rw [a2, b2, h.same]
  · exact Nat.le_trans (sub_len a1.nodup (fun c hc => ((a2 c).1 hc).1)) h.len
theorem Ln.gone_inv {s : Ln} (h : s.Inv) (k : ByteArray) : (s.gone k).Inv := ⟨(Ln.gone_inv0 h.toInv0 k).1, h.gal, h.gbl⟩
theorem Ln.gone_len {s : Ln} (h : s.Inv0) {k : ByteArray} (hk : k ∈ s.A.res) : (s.gone k).A.res.length + 1 = s.A.res.length := by
  obtain ⟨h1, h2⟩ := Ln.gone_inv0 h k
  rw [← kDel_length h.a.nodup hk]
  exact congrArg (· + 1) (same_len h1.a.nodup (kDel_nodup k h.a.nodup) (fun c => (h2 c).trans kDel_mem.symm))
theorem Ln.adopts_inv {s : Ln} (h : s.Inv) (k : ByteArray) (hk : k ∉ s.A.res) (hl : s.A.res.length < s.most) (hg : k ∉ s.GA ∧ k ∉ s.GB) : (s.adopts k).Inv ∧ (∀ c, c ∈ (s.adopts k).A.res ↔ c = k ∨ c ∈ s.A.res) := by
  obtain ⟨a1, a2, _⟩ := Pol.adopt_res h.a k hk (by rw [h.am]; exact hl)
  obtain ⟨b1, b2, _⟩ := Pol.adopt_res h.b k (fun hc => hk ((h.same k).2 hc)) (by rw [h.lens, h.bm]; exact hl)
  have hlen : (s.adopts k).A.res.length = s.A.res.length + 1 := same_len (l := (s.A.adopt k).1.res) (m := k :: s.A.res) a1.nodup (List.nodup_cons.2 ⟨hk, h.a.nodup⟩) (fun c => by rw [a2, List.mem_cons])
  refine ⟨⟨⟨a1, b1, fun c => ?_, (Pol.adopt_most _ _).trans h.am, (Pol.adopt_most _ _).trans h.bm, ?_, h.ga, h.gb, h.gg, fun c hc hc2 => ?_, fun c hc hc2 => ?_, h.went⟩, h.gal, h.gbl⟩, a2⟩
  · show c ∈ (s.A.adopt k).1.res ↔ c ∈ (s.B.adopt k).1.res
    rw [a2, b2, h.same]
  · rw [hlen]; exact hl
  · rcases (a2 c).1 hc2 with rfl | h1
    · exact hg.1 hc
    · exact h.gra c hc h1
  · rcases (a2 c).1 hc2 with rfl | h1
    · exact hg.2 hc
    · exact h.grb c hc h1
theorem Ln.trimA_inv {s : Ln} (h : s.Inv0) (hb : s.GB.length ≤ s.most) : s.trimA.Inv := by
  have htd := mem_take_drop h.ga s.most
  refine ⟨⟨h.a, h.b, h.same, h.am, h.bm, h.len, nodup_take h.ga _, h.gb, fun c hc => h.gg c (List.mem_of_mem_take hc), fun c hc => h.gra c (List.mem_of_mem_take hc), h.grb, fun c => ?_⟩, List.length_take_le _ _, hb⟩
  show (delAll s.went (s.GA.drop s.most).reverse).has c = true ↔ c ∈ s.GA.take s.most ∨ c ∈ s.GB
  rw [delAll_has, h.went, List.mem_reverse]
  have h1 := (htd c).1
  have h2 := (htd c).2
  constructor
  · rintro ⟨h3 | h3, h4⟩
    · rcases h1.1 h3 with h5 | h5
      · exact .inl h5
      · exact absurd h5 h4
    · exact .inr h3
  · rintro (h3 | h3)
    · exact ⟨.inl (h1.2 (.inl h3)), h2 h3⟩
    · exact ⟨.inr h3, fun h4 => h.gg c (h1.2 (.inr h4)) h3⟩
theorem Ln.trimB_inv {s : Ln} (h : s.Inv0) (ha : s.GA.length ≤ s.most) : s.trimB.Inv := by
  have htd := mem_take_drop h.gb s.most
  refine ⟨⟨h.a, h.b, h.same, h.am, h.bm, h.len, h.ga, nodup_take h.gb _, fun c hc hc2 => h.gg c hc (List.mem_of_mem_take hc2), h.gra, fun c hc => h.grb c (List.mem_of_mem_take hc), fun c => ?_⟩, ha, List.length_take_le _ _⟩
  show (delAll s.went (s.GB.drop s.most).reverse).has c = true ↔ c ∈ s.GA ∨ c ∈ s.GB.take s.most
  rw [delAll_has, h.went, List.mem_reverse]
  have h1 := (htd c).1
  have h2 := (htd c).2
  constructor
  · rintro ⟨h3 | h3, h4⟩
    · exact .inl h3
    · rcases h1.1 h3 with h5 | h5
      · exact .inr h5
      · exact absurd h5 h4
  · rintro (h3 | h3)
    · exact ⟨.inl h3, fun h4 => h.gg c h3 (h1.2 (.inr h4))⟩
    · exact ⟨.inr (h1.2 (.inl h3)), h2 h3⟩
/-- Room is made for one more. -/
structure Ln.Room (s t : Ln) (v : ByteArray) : Prop where
  inv : t.Inv
  vic : v ∈ s.A.res
  res : ∀ c, c ∈ t.A.res ↔ c ∈ s.A.res ∧ c ≠ v
  len : t.A.res.length + 1 = s.A.res.length
  rows : (s.pick = true ∧ t.GA = (v :: s.GA).take s.most ∧ t.GB = s.GB) ∨ (s.pick = false ∧ t.GA = s.GA ∧ t.GB = (v :: s.GB).take s.most)
  w : t.w = s.w
  tape : t.tape = tNext s.tape s.lane
theorem Ln.room_less {s : Ln} (hl : s.A.res.length < s.most) : s.room = (s, bNil, false) := by
  unfold Ln.room
  rw [if_pos (by rw [Ln.len_res]; exact hl)]
theorem Ln.room_full {s : Ln} (h : s.Inv) (hm : s.most ≠ 0) (hl : ¬ s.A.res.length < s.most) : ∃ v, s.room.2 = (v, true) ∧ Ln.Room s s.room.1 v ∧ (s.pick = true → v = s.A.victim.1) ∧ (s.pick = false → v = s.B.victim.1) := by
  unfold Ln.room
  rw [if_neg (by rw [Ln.len_res]; exact hl)]
  dsimp only
  have hne : s.A.res ≠ [] := fun e => by rw [e] at hl; exact hl (Nat.pos_of_ne_zero hm)
  have hneB : s.B.res ≠ [] := fun e => by have := h.lens; rw [e] at this; exact hne (List.length_eq_zero_iff.1 this.symm)
  have h' : ({ s with tape := tNext s.tape s.lane } : Ln).Inv := ⟨⟨h.a, h.b, h.same, h.am, h.bm, h.len, h.ga, h.gb, h.gg, h.gra, h.grb, h.went⟩, h.gal, h.gbl⟩
  obtain ⟨s', hs'⟩ : ∃ s', ({ s with tape := tNext s.tape s.lane } : Ln) = s' := ⟨_, rfl⟩
  rw [hs'] at h' ⊢
  have eA : s'.A = s.A := by rw [← hs']
  have eGA : s'.GA = s.GA := by rw [← hs']
  have eGB : s'.GB = s.GB := by rw [← hs']
  have em : s'.most = s.most := by rw [← hs']
  have ew : s'.w = s.w := by rw [← hs']
  have et : s'.tape = tNext s.tape s.lane := by rw [← hs']
  cases hp : s.pick with
  | true =>
    rw [if_pos rfl]
    obtain ⟨v1, v2⟩ := Pol.victim_res s.A
    have hv := v2 hne
    rcases hvv : s.A.victim with ⟨v, o⟩
    rw [hvv] at v1 hv
    dsimp only at v1 hv ⊢
    have ho : o = true := by rw [v1]; cases hr : s.A.res with | nil => exact absurd hr hne | cons => rfl
    subst ho
    have hv' : v ∈ s'.A.res := by rw [eA]; exact hv
    obtain ⟨g1, g2⟩ := Ln.gone_inv0 h'.toInv0 v
    have hl1 := Ln.gone_len h'.toInv0 hv'
    have hna : v ∉ s'.GA := fun hc => h'.gra v hc hv'
    have hnb : v ∉ s'.GB := fun hc => h'.grb v hc hv'
    have ef : kFront s'.GA v = v :: s'.GA := kFront_new hna
    refine ⟨v, rfl, ⟨Ln.trimA_inv ⟨g1.a, g1.b, g1.same, g1.am, g1.bm, g1.len, kFront_nodup v h'.ga, h'.gb, fun c hc hc2 => ?_, fun c hc hc2 => ?_, g1.grb, fun c => ?_⟩ h'.gbl, hv, fun c => ?_, ?_, .inl ⟨hp, ?_, ?_⟩, ew, et⟩, fun _ => rfl, (fun hc => by cases hc)⟩
    · rcases mem_kFront.1 hc with rfl | h1
      · exact hnb hc2
      · exact h'.gg c h1 hc2
    · rcases mem_kFront.1 hc with rfl | h1
      · exact ((g2 c).1 hc2).2 rfl
      · exact g1.gra c h1 hc2
    · show (s'.went.put v s'.clock).has c = true ↔ c ∈ kFront s'.GA v ∨ c ∈ s'.GB
      rw [TMap.has_put, h'.went, mem_kFront, or_assoc]
    · rw [← eA]; exact g2 c
    · rw [← eA]; exact hl1
    · show (kFront s'.GA v).take s'.most = _
      rw [ef, eGA, em]
    · exact eGB
  | false =>
    rw [if_neg (by decide)]
    obtain ⟨v1, v2⟩ := Pol.victim_res s.B
    have hv := v2 hneB
    rcases hvv : s.B.victim with ⟨v, o⟩
    rw [hvv] at v1 hv
    dsimp only at v1 hv ⊢
    have ho : o = true := by rw [v1]; cases hr : s.B.res with | nil => exact absurd hr hneB | cons => rfl
    subst ho
    have hvA : v ∈ s.A.res := (h.same v).2 hv
    have hv' : v ∈ s'.A.res := by rw [eA]; exact hvA
    obtain ⟨g1, g2⟩ := Ln.gone_inv0 h'.toInv0 v
    have hl1 := Ln.gone_len h'.toInv0 hv'
    have hna : v ∉ s'.GA := fun hc => h'.gra v hc hv'
    have hnb : v ∉ s'.GB := fun hc => h'.grb v hc hv'
    have ef : kFront s'.GB v = v :: s'.GB := kFront_new hnb
    refine ⟨v, rfl, ⟨Ln.trimB_inv ⟨g1.a, g1.b, g1.same, g1.am, g1.bm, g1.len, h'.ga, kFront_nodup v h'.gb, fun c hc hc2 => ?_, g1.gra, fun c hc hc2 => ?_, fun c => ?_⟩ h'.gal, hvA, fun c => ?_, ?_, .inr ⟨hp, ?_, ?_⟩, ew, et⟩, (fun hc => by cases hc), fun _ => rfl⟩
    · rcases mem_kFront.1 hc2 with rfl | h1
      · exact hna hc
      · exact h'.gg c hc h1
    · rcases mem_kFront.1 hc with rfl | h1
      · exact ((g2 c).1 hc2).2 rfl
      · exact g1.grb c h1 hc2
    · show (s'.went.put v s'.clock).has c = true ↔ c ∈ s'.GA ∨ c ∈ kFront s'.GB v
      rw [TMap.has_put, h'.went, mem_kFront]
      constructor
      · rintro (h1 | h1 | h1)
        · exact .inr (.inl h1)
        · exact .inl h1
        · exact .inr (.inr h1)
      · rintro (h1 | h1 | h1)
        · exact .inr (.inl h1)
        · exact .inl h1
        · exact .inr (.inr h1)
    · rw [← eA]; exact g2 c
    · rw [← eA]; exact hl1
    · exact eGA
    · show (kFront s'.GB v).take s'.most = _
      rw [ef, eGB, em]
/-- A window moves no resident, no ghost, no weight. -/
structure Ln.Same (s t : Ln) : Prop where
  A : t.A = s.A
  B : t.B = s.B
  GA : t.GA = s.GA
  GB : t.GB = s.GB
  went : t.went = s.went
  most : t.most = s.most
  w : t.w = s.w
theorem Ln.window_same (s : Ln) : Ln.Same s s.window := by
  unfold Ln.window
  dsimp only
  (repeat' split) <;> exact ⟨rfl, rfl, rfl, rfl, rfl, rfl, rfl⟩
theorem Ln.Same.inv {s t : Ln} (e : Ln.Same s t) (h : s.Inv) : t.Inv := by
  obtain ⟨e1, e2, e3, e4, e5, e6, _⟩ := e
  exact ⟨⟨by rw [e1]; exact h.a, by rw [e2]; exact h.b, by rw [e1, e2]; exact h.same, by rw [e1, e6]; exact h.am, by rw [e2, e6]; exact h.bm, by rw [e1, e6]; exact h.len, by rw [e3]; exact h.ga, by rw [e4]; exact h.gb, by rw [e3, e4]; exact h.gg, by rw [e1, e3]; exact h.gra, by rw [e1, e4]; exact h.grb, by rw [e3, e4, e5]; exact h.went⟩, by rw [e3, e6]; exact h.gal, by rw [e4, e6]; exact h.gbl⟩
/-- What a request does to residents and ghosts, where there may be any. -/
inductive Ln.Req (s t : Ln) (k : ByteArray) : Stp → Prop
  | hit (hk : k ∈ s.A.res) (res : ∀ c, c ∈ t.A.res ↔ c ∈ s.A.res) (ga : t.GA = s.GA) (gb : t.GB = s.GB) (w : t.w = s.w) : Ln.Req s t k ⟨true, bNil, false⟩
  | less (hk : k ∉ s.A.res) (hl : s.A.res.length < s.most) (res : ∀ c, c ∈ t.A.res ↔ c = k ∨ c ∈ s.A.res) (ga : t.GA = (s.regret k).GA) (gb : t.GB = (s.regret k).GB) (w : t.w = (({ s with clock := s.clock + 1 } : Ln).regret k).w) : Ln.Req s t k ⟨false, bNil, false⟩
  | full (v : ByteArray) (hk : k ∉ s.A.res) (hl : ¬ s.A.res.length < s.most) (hv : v ∈ s.A.res) (res : ∀ c, c ∈ t.A.res ↔ c = k ∨ (c ∈ s.A.res ∧ c ≠ v))
      (rows : (decide (tHead s.tape s.lane / 4 < t.w) = true ∧ t.GA = (v :: (s.regret k).GA).take s.most ∧ t.GB = (s.regret k).GB) ∨ (decide (tHead s.tape s.lane / 4 < t.w) = false ∧ t.GA = (s.regret k).GA ∧ t.GB = (v :: (s.regret k).GB).take s.most))
      (w : t.w = (({ s with clock := s.clock + 1 } : Ln).regret k).w) : Ln.Req s t k ⟨false, v, true⟩
theorem Ln.regret_rows (s : Ln) (k : ByteArray) (c : Int) : (({ s with clock := c } : Ln).regret k).GA = (s.regret k).GA ∧ (({ s with clock := c } : Ln).regret k).GB = (s.regret k).GB := by
  unfold Ln.regret
  dsimp only
  cases s.went.get k <;> exact ⟨rfl, rfl⟩
theorem Ln.regret_keep (s : Ln) (k : ByteArray) : (s.regret k).tape = s.tape ∧ (s.regret k).lane = s.lane ∧ (s.regret k).most = s.most ∧ (s.regret k).A = s.A ∧ (s.regret k).B = s.B := by
  unfold Ln.regret
  dsimp only
  cases s.went.get k <;> exact ⟨rfl, rfl, rfl, rfl, rfl⟩
theorem Ln.req_inv {s : Ln} (h : s.Inv) (hm : s.most ≠ 0) (k : ByteArray) : (s.req k).1.Inv ∧ Ln.Req s (s.req k).1 k (s.req k).2 := by
  unfold Ln.req
  dsimp only
  rw [if_neg hm, h.has]
  by_cases hk : k ∈ s.A.res
  · rw [if_pos (decide_eq_true hk)]
    obtain ⟨a1, a2, _⟩ := Pol.hit_res h.a k hk (by rw [h.am]; exact hm)
    obtain ⟨b1, b2, _⟩ := Pol.hit_res h.b k ((h.same k).1 hk) (by rw [h.bm]; exact hm)
    have hw := Ln.window_same { s with clock := s.clock + 1, hits := s.hits + 1, A := (s.A.req k).1, B := (s.B.req k).1 }
    have hi : ({ s with clock := s.clock + 1, hits := s.hits + 1, A := (s.A.req k).1, B := (s.B.req k).1 } : Ln).Inv :=
      ⟨⟨a1, b1, fun c => ((a2 c).trans (h.same c)).trans (b2 c).symm, (Pol.req_most _ _).trans h.am, (Pol.req_most _ _).trans h.bm, by
        show (s.A.req k).1.res.length ≤ s.most
        rw [same_len a1.nodup h.a.nodup a2]; exact h.len, h.ga, h.gb, h.gg, fun c hc hc2 => h.gra c hc ((a2 c).1 hc2), fun c hc hc2 => h.grb c hc ((a2 c).1 hc2), h.went⟩, h.gal, h.gbl⟩
    refine ⟨hw.inv hi, .hit hk (fun c => ?_) hw.GA hw.GB hw.w⟩
    rw [hw.A]
    exact a2 c
  · rw [if_neg (by rw [decide_eq_false hk]; decide)]
    dsimp only
    have h0 := h.clock (s.clock + 1)
    obtain ⟨s0, hs0⟩ : ∃ s0, ({ s with clock := s.clock + 1 } : Ln) = s0 := ⟨_, rfl⟩
    obtain ⟨q1, q2⟩ := Ln.regret_rows s k (s.clock + 1)
    obtain ⟨k1, k2, k3, k4, k5⟩ := Ln.regret_keep ({ s with clock := s.clock + 1 } : Ln) k
    rw [hs0] at h0 q1 q2 k1 k2 k3 k4 k5 ⊢
    have e1 : s0.A = s.A := by rw [← hs0]
    have e2 : s0.most = s.most := by rw [← hs0]
    have e3 : s0.tape = s.tape := by rw [← hs0]
    have e4 : s0.lane = s.lane := by rw [← hs0]
    obtain ⟨r1, r2, _, _, _⟩ := Ln.regret_inv h0 k
    obtain ⟨s1, hs1⟩ : ∃ s1, s0.regret k = s1 := ⟨_, rfl⟩
    rw [hs1] at r1 r2 q1 q2 k1 k2 k3 k4 k5 ⊢
    rw [e1] at k4
    rw [e2] at k3
    rw [e3] at k1
    rw [e4] at k2
    by_cases hl : s.A.res.length < s.most
    · have hl' : s1.A.res.length < s1.most := by rw [k3, k4]; exact hl
      rw [Ln.room_less hl']
      dsimp only
      obtain ⟨d1, d2⟩ := Ln.adopts_inv r1 k (by rw [k4]; exact hk) hl' r2
      have hw := Ln.window_same (s1.adopts k)
      refine ⟨hw.inv d1, .less hk hl (fun c => ?_) (hw.GA.trans q1) (hw.GB.trans q2) ?_⟩
      · rw [hw.A, d2, k4]
      · rw [hw.w, hs0, hs1]
        rfl
    · have hl' : ¬ s1.A.res.length < s1.most := by rw [k3, k4]; exact hl
      obtain ⟨v, v1, v2, _, _⟩ := Ln.room_full r1 (by rw [k3]; exact hm) hl'
      obtain ⟨s2, hs2⟩ : ∃ s2, s1.room.1 = s2 := ⟨_, rfl⟩
      rw [v1]
      rw [hs2] at v2 ⊢
      dsimp only
      have hv := v2.vic
      have hres := v2.res
      rw [k4] at hv hres
      have hkv : k ≠ v := fun e => hk (e ▸ hv)
      have hm2 : s2.most = s1.most := by rw [← hs2]; exact (Ln.room_like s1).most
      have hg2 : k ∉ s2.GA ∧ k ∉ s2.GB := by
        rcases v2.rows with ⟨_, ea, eb⟩ | ⟨_, ea, eb⟩
        · rw [ea, eb]
          refine ⟨fun hc => ?_, r2.2⟩
          rcases List.mem_cons.1 (List.mem_of_mem_take hc) with h3 | h3
          · exact hkv h3
          · exact r2.1 h3
        · rw [ea, eb]
          refine ⟨r2.1, fun hc => ?_⟩
          rcases List.mem_cons.1 (List.mem_of_mem_take hc) with h3 | h3
          · exact hkv h3
          · exact r2.2 h3
      have hlen := v2.len
      have hle := r1.len
      obtain ⟨d1, d2⟩ := Ln.adopts_inv v2.inv k (fun hc => hk ((hres k).1 hc).1) (by rw [hm2]; omega) hg2
      have hw := Ln.window_same (s2.adopts k)
      have hww : (s2.adopts k).window.w = s1.w := hw.w.trans v2.w
      have hpick : s1.pick = decide (tHead s.tape s.lane / 4 < (s2.adopts k).window.w) := by
        rw [hww]
        unfold Ln.pick
        rw [k1, k2]
      refine ⟨hw.inv d1, .full v hk hl hv (fun c => ?_) ?_ ?_⟩
      · rw [hw.A, d2, hres]
      · rw [← hpick, hw.GA, hw.GB, ← q1, ← q2, ← k3]
        exact v2.rows
      · rw [hww, hs0, hs1]
theorem Ln.req_zero {s : Ln} (h : s.Inv) (hm : s.most = 0) (k : ByteArray) : (s.req k).1 = { s with clock := s.clock + 1 } ∧ (s.req k).2 = ⟨false, bNil, false⟩ := by
  unfold Ln.req
  dsimp only
  rw [if_pos hm, h.has]
  have : s.A.res = [] := List.length_eq_zero_iff.1 (by have := h.len; omega)
  rw [this]
  exact ⟨rfl, rfl⟩
theorem Ln.remove_inv {s : Ln} (h : s.Inv) (k : ByteArray) : (s.remove k).Inv ∧ (∀ c, c ∈ (s.remove k).A.res ↔ c ∈ s.A.res ∧ c ≠ k) ∧ k ∉ (s.remove k).GA ∧ k ∉ (s.remove k).GB :=
  ⟨Ln.forget_inv (Ln.gone_inv h k) k, (Ln.gone_inv0 h.toInv0 k).2, Ln.forget_not (s.gone k) k⟩
theorem Ln.adopt_no {s : Ln} (h : s.Inv) (k : ByteArray) (hk : k ∈ s.A.res ∨ s.most ≤ s.A.res.length) : s.adopt k = (s, false) := by
  unfold Ln.adopt
  rw [if_pos (by rw [h.has, Ln.len_res, decide_eq_true_iff]; exact hk)]
theorem Ln.adopt_yes {s : Ln} (h : s.Inv) (k : ByteArray) (hk : k ∉ s.A.res) (hl : s.A.res.length < s.most) : (s.adopt k).2 = true ∧ (s.adopt k).1.Inv ∧ (∀ c, c ∈ (s.adopt k).1.A.res ↔ c = k ∨ c ∈ s.A.res) ∧ (s.adopt k).1.GA = kDel s.GA k ∧ (s.adopt k).1.GB = kDel s.GB k := by
  unfold Ln.adopt
  rw [if_neg (by rw [h.has, Ln.len_res, decide_eq_true_iff]; exact fun hc => hc.elim hk (fun h => absurd h (by omega)))]
  obtain ⟨d1, d2⟩ := Ln.adopts_inv (Ln.forget_inv h k) k hk hl (Ln.forget_not s k)
  exact ⟨rfl, d1, d2, rfl, rfl⟩
theorem Ln.adopt_inv {s : Ln} (h : s.Inv) (k : ByteArray) : (s.adopt k).1.Inv := by
  by_cases hk : k ∈ s.A.res ∨ s.most ≤ s.A.res.length
  · rw [Ln.adopt_no h k hk]; exact h
  · exact (Ln.adopt_yes h k (fun hc => hk (.inl hc)) (Nat.lt_of_not_le fun hc => hk (.inr hc))).2.1
theorem Ln.drop_inv {s : Ln} (h : s.Inv) : s.drop.Inv := by
  unfold Ln.drop
  split
  · exact Ln.gone_inv h _
  · exact h
theorem Ln.new_inv (kind : Int) (most : Nat) (t : List (List Nat)) (lane : Nat) : (Ln.new kind most t lane).Inv := by
  have ha : (Ln.new kind most t lane).A.Inv ∧ (Ln.new kind most t lane).A.res = [] ∧ (Ln.new kind most t lane).A.most = most := by
    unfold Ln.new
    dsimp only
    split
    · exact ⟨⟨List.nodup_nil, List.nodup_nil, List.nodup_nil, (fun _ h => by cases h), (fun _ h => by cases h), (fun _ h => by cases h), fun c => by simp [TMap.has]⟩, rfl, rfl⟩
    · exact ⟨List.nodup_nil, rfl, rfl⟩
  refine ⟨⟨ha.1, ⟨List.nodup_nil, List.Pairwise.nil, (fun _ h => by cases h), Int.le_refl _, (fun _ h => by cases h)⟩, fun c => ?_, ha.2.2, rfl, ?_, List.nodup_nil, List.nodup_nil, (fun _ h => by cases h), (fun _ h => by cases h), (fun _ h => by cases h), fun c => ?_⟩, Nat.zero_le _, Nat.zero_le _⟩
  · rw [ha.2.1]; exact Iff.rfl
  · rw [ha.2.1]; exact Nat.zero_le _
  · show TMap.has [] c = true ↔ c ∈ [] ∨ c ∈ []
    simp [TMap.has]
end Go.Proofs.YtbbdimlpofjlfaaGreatDoor
