/- What a request for a key that isn't resident does to a policy's residents. -/
import Derived.Test.YtbbdimlpofjlfaaGreatDoorQTwInv
import Derived.Test.YtbbdimlpofjlfaaGreatDoorQTwArc
import Derived.Test.YtbbdimlpofjlfaaGreatDoorQLn10
namespace Go.Proofs.YtbbdimlpofjlfaaGreatDoor
open Go Go.RowKit

inductive Miss (R R' : List ByteArray) (most : Nat) (k : ByteArray) : Stp → Prop
  | less (hl : R.length < most) (res : ∀ c, c ∈ R' ↔ c = k ∨ c ∈ R) : Miss R R' most k ⟨false, bNil, false⟩
  | full (v : ByteArray) (hl : ¬ R.length < most) (hv : v ∈ R) (res : ∀ c, c ∈ R' ↔ c = k ∨ (c ∈ R ∧ c ≠ v)) : Miss R R' most k ⟨false, v, true⟩
/-- A miss, behind the target's move and the ghost's going. -/
def Sr.miss (s1 : Sr) (known : Bool) (k : ByteArray) : Sr × Stp :=
  if known then ((if s1.most ≤ s1.len then s1.evict else s1).again k, if s1.most ≤ s1.len then ⟨false, kLast s1.row, !s1.row.isEmpty⟩ else ⟨false, bNil, false⟩)
  else ({ (if s1.most ≤ s1.len then s1.evict else s1) with n := kFront (if s1.most ≤ s1.len then s1.evict else s1).n k, marks := (if s1.most ≤ s1.len then s1.evict else s1).marks.put k (false, false) }, if s1.most ≤ s1.len then ⟨false, kLast s1.row, !s1.row.isEmpty⟩ else ⟨false, bNil, false⟩)
theorem Sr.req_miss {s : Sr} {k : ByteArray} (hm : s.most ≠ 0) (ha : k ∉ s.a) (hn : k ∉ s.n) :
    s.req k = Sr.miss { s with target := if s.marks.has k = true ∧ ((s.marks.get k).getD (false, false)).1 = false ∧ 1 < s.target then s.target - 1 else s.target, g := kDel s.g k } (s.marks.has k) k := by
  unfold Sr.req Sr.miss
  rw [if_neg hm, if_neg ha, if_neg hn]
  dsimp only
  simp only [decide_eq_true_eq]
theorem Sr.again_g (s : Sr) (k : ByteArray) : (s.again k).g = s.g := by
  unfold Sr.again
  dsimp only
  exact (Sr.demote_fit _ _).2.2
theorem Sr.evict_n (s : Sr) (m : TMap (Bool × Bool)) : ({ s with marks := m } : Sr).evict.n = s.evict.n ∧ ({ s with marks := m } : Sr).evict.a = s.evict.a ∧ ({ s with marks := m } : Sr).evict.g = s.evict.g ∧ ({ s with marks := m } : Sr).row = s.row := by
  have hr : ({ s with marks := m } : Sr).row = s.row := rfl
  unfold Sr.evict
  rw [hr]
  by_cases h : s.row = []
  · rw [if_pos h, if_pos h]; exact ⟨rfl, rfl, rfl, rfl⟩
  · rw [if_neg h, if_neg h]
    unfold Sr.trim Sr.popRow
    dsimp only
    split <;> exact ⟨rfl, rfl, rfl, rfl⟩
theorem Sr.evict_marks (s : Sr) (m : TMap (Bool × Bool)) (k c : ByteArray) (hm : m = s.marks.del k) (hc : c ≠ k) : ({ s with marks := m } : Sr).evict.marks.has c = true ↔ s.evict.marks.has c = true := by
  have hr : ({ s with marks := m } : Sr).row = s.row := rfl
  unfold Sr.evict
  rw [hr]
  by_cases h : s.row = []
  · rw [if_pos h, if_pos h, hm, TMap.has_del]
    exact ⟨fun h => h.1, fun h => ⟨h, hc⟩⟩
  · rw [if_neg h, if_neg h]
    unfold Sr.trim Sr.popRow
    dsimp only
    subst hm
    split
    · dsimp only
      rw [delAll_has, delAll_has, TMap.has_del]
      exact ⟨fun h => ⟨h.1.1, h.2⟩, fun h => ⟨⟨h.1, hc⟩, h.2⟩⟩
    · dsimp only
      rw [delAll_has, delAll_has, TMap.has_del]
      exact ⟨fun h => ⟨h.1.1, h.2⟩, fun h => ⟨⟨h.1, hc⟩, h.2⟩⟩
theorem Sr.evict_g {s : Sr} {c : ByteArray} (h : c ∈ s.evict.g) : c ∈ s.g ∨ c ∈ s.res := by
  unfold Sr.evict at h
  by_cases hr : s.row = []
  · rw [if_pos hr] at h; exact .inl h
  · rw [if_neg hr] at h
    unfold Sr.trim at h
    dsimp only at h
    rcases mem_kFront.1 (List.mem_of_mem_take h) with rfl | h
    · exact .inr (Sr.row_mem hr)
    · left
      exact h
theorem Sr.miss_res {s : Sr} (h : s.Inv) (k : ByteArray) (hk : k ∉ s.res) (hm : s.most ≠ 0) : (s.req k).1.Inv ∧ Miss s.res (s.req k).1.res s.most k (s.req k).2 := by
  have hkn : k ∉ s.n := fun c => hk (Sr.mem_res.2 (.inl c))
  have hka : k ∉ s.a := fun c => hk (Sr.mem_res.2 (.inr c))
  rw [Sr.req_miss hm hka hkn]
  obtain ⟨t, ht⟩ : ∃ t, (if s.marks.has k = true ∧ ((s.marks.get k).getD (false, false)).1 = false ∧ 1 < s.target then s.target - 1 else s.target) = t := ⟨_, rfl⟩
  rw [ht]
  obtain ⟨s1, hs1⟩ : ∃ s1 : Sr, { s with target := t, g := kDel s.g k } = s1 := ⟨_, rfl⟩
  rw [hs1]
  unfold Sr.miss
  have e1 : s1.res = s.res := by rw [← hs1]; rfl
  have e2 : s1.most = s.most := by rw [← hs1]
  have e3 : s1.len = s.res.length := by rw [← hs1]; exact (List.length_append).symm
  have e4 : s1.marks = s.marks := by rw [← hs1]
  have e5 : k ∉ s1.g := by rw [← hs1]; exact fun hc => (kDel_mem.1 hc).2 rfl
  -- the one without the mark
  have hi1 : ({ s1 with marks := s1.marks.del k } : Sr).Inv := by
    have := (Sr.remove_inv (s := { s with target := t }) ⟨h.n, h.a, h.g, h.na, h.ng, h.ag, h.marks⟩ k).1
    unfold Sr.remove at this
    dsimp only at this
    rw [kDel_none hkn, if_neg hkn, kDel_none hka] at this
    rw [← hs1]
    exact this
  have main : ∀ s2 : Sr, (({ s2 with marks := s2.marks.del k } : Sr).Inv) → k ∉ s2.n → k ∉ s2.a → k ∉ s2.g → (s.marks.has k = false → s2.Inv) →
      ((if s.marks.has k = true then s2.again k else { s2 with n := kFront s2.n k, marks := s2.marks.put k (false, false) }).Inv ∧ (∀ c, c ∈ (if s.marks.has k = true then s2.again k else { s2 with n := kFront s2.n k, marks := s2.marks.put k (false, false) }).res ↔ c = k ∨ c ∈ s2.res)) := by
    intro s2 h2 n2 a2 g2 hno
    by_cases hkn2 : s.marks.has k = true
    · rw [if_pos hkn2]
      refine Sr.again_inv (s := s2) h2.n h2.a h2.g h2.na h2.ng h2.ag k ⟨n2, a2, g2⟩ fun c hc => ?_
      have := h2.marks c
      dsimp only at this
      rw [TMap.has_del] at this
      rw [← this]
      exact ⟨fun h => ⟨h, hc⟩, fun h => h.1⟩
    · rw [if_neg hkn2]
      have hi := hno (by simpa using hkn2)
      have := Sr.front_inv hi k (fun hc => (Sr.mem_res.1 hc).elim n2 a2)
      rw [kDel_none g2] at this
      exact this
  by_cases hf : s.most ≤ s.res.length
  · have hrn : s1.row ≠ [] := fun e => by
      rw [Sr.row_nil, e1] at e
      rw [e] at hf
      exact hm (Nat.le_zero.1 hf)
    rw [e2, e3]
    simp only [if_pos hf]
    have hv : kLast s1.row ∈ s.res := by rw [← e1]; exact Sr.row_mem hrn
    obtain ⟨v1, v2⟩ := Sr.evict_inv hi1 (show ({ s1 with marks := s1.marks.del k } : Sr).row ≠ [] from hrn)
    obtain ⟨w1, w2, w3, _⟩ := Sr.evict_n s1 (s1.marks.del k)
    have hres : ∀ c, c ∈ s1.evict.res ↔ c ∈ s.res ∧ c ≠ kLast s1.row := fun c => by
      have := v2 c
      unfold Sr.res at this
      rw [w1, w2] at this
      rw [← e1]
      exact this
    have hg2 : k ∉ s1.evict.g := fun hc => (Sr.evict_g hc).elim e5 (fun hc => by rw [e1] at hc; exact hk hc)
    have hn2 : k ∉ s1.evict.n := fun hc => hk ((hres k).1 (Sr.mem_res.2 (.inl hc))).1
    have ha2 : k ∉ s1.evict.a := fun hc => hk ((hres k).1 (Sr.mem_res.2 (.inr hc))).1
    have hb : ∀ c, s1.evict.marks.has c = true ∧ c ≠ k ↔ (c ∈ s1.evict.n ∨ c ∈ s1.evict.a ∨ c ∈ s1.evict.g) := fun c => by
      rw [← w1, ← w2, ← w3, ← v1.marks c]
      by_cases hc : c = k
      · subst hc
        refine ⟨fun h => absurd rfl h.2, fun h => ?_⟩
        rw [v1.marks, w1, w2, w3] at h
        rcases h with h | h | h
        · exact absurd h hn2
        · exact absurd h ha2
        · exact absurd h hg2
      · rw [Sr.evict_marks s1 _ k c rfl hc]
        exact ⟨fun h => h.1, fun h => ⟨h, hc⟩⟩
    have h2 : ({ s1.evict with marks := s1.evict.marks.del k } : Sr).Inv := ⟨by rw [← w1]; exact v1.n, by rw [← w2]; exact v1.a, by rw [← w3]; exact v1.g, by rw [← w1, ← w2]; exact v1.na, by rw [← w1, ← w3]; exact v1.ng, by rw [← w2, ← w3]; exact v1.ag, fun c => by
      dsimp only
      rw [TMap.has_del]
      exact hb c⟩
    obtain ⟨m1, m2⟩ := main s1.evict h2 hn2 ha2 hg2 (fun hno => by
      have hi : s1.Inv := by
        have hg : k ∉ s.g := fun hc => by rw [(h.marks k).2 (.inr (.inr hc))] at hno; cases hno
        rw [← hs1, kDel_none hg]
        exact ⟨h.n, h.a, h.g, h.na, h.ng, h.ag, h.marks⟩
      exact (Sr.evict_inv hi hrn).1)
    have hst : (!s1.row.isEmpty) = true := by cases hq : s1.row with | nil => exact absurd hq hrn | cons => rfl
    rw [hst]
    by_cases hkn2 : s.marks.has k = true
    · rw [if_pos hkn2] at m1 m2 ⊢
      exact ⟨m1, .full _ (by omega) hv fun c => by rw [m2, hres]⟩
    · rw [if_neg hkn2] at m1 m2 ⊢
      exact ⟨m1, .full _ (by omega) hv fun c => by rw [m2, hres]⟩
  · rw [e2, e3]
    simp only [if_neg hf]
    have hres : ∀ c, c ∈ s1.res ↔ c ∈ s.res := fun c => by rw [e1]
    obtain ⟨m1, m2⟩ := main s1 hi1 (by rw [← hs1]; exact hkn) (by rw [← hs1]; exact hka) e5 (fun hno => by
        have hg : k ∉ s.g := fun hc => by rw [(h.marks k).2 (.inr (.inr hc))] at hno; cases hno
        rw [← hs1, kDel_none hg]
        exact ⟨h.n, h.a, h.g, h.na, h.ng, h.ag, h.marks⟩)
    by_cases hkn2 : s.marks.has k = true
    · rw [if_pos hkn2] at m1 m2 ⊢
      exact ⟨m1, .less (by omega) fun c => by rw [m2, hres]⟩
    · rw [if_neg hkn2] at m1 m2 ⊢
      exact ⟨m1, .less (by omega) fun c => by rw [m2, hres]⟩
theorem Pol.miss_res {p : Pol} (h : p.Inv) (k : ByteArray) (hk : k ∉ p.res) (hm : p.most ≠ 0) : (p.req k).1.Inv ∧ Miss p.res (p.req k).1.res p.most k (p.req k).2 := by
  cases p with
  | lru s =>
    have hm' : s.most ≠ 0 := hm
    have hk' : k ∉ s.ks := hk
    have hn : s.ks.Nodup := h
    show Pol.Inv (.lru (s.req k).1) ∧ Miss s.ks (s.req k).1.ks s.most k (s.req k).2
    unfold Lru.req
    rw [if_neg hm', if_neg hk']
    by_cases hl : s.most ≤ s.ks.length
    · rw [if_pos hl]
      have hne : s.ks ≠ [] := fun e => by rw [e] at hl; exact hm' (Nat.le_zero.1 hl)
      exact ⟨kFront_nodup k (nodup_dropLast hn), .full _ (by omega) (kLast_mem hne) fun c => by rw [mem_kFront, mem_dropLast hn hne]⟩
    · rw [if_neg hl]
      exact ⟨kFront_nodup k hn, .less (by omega) fun c => mem_kFront⟩
  | lfu s =>
    have hm' : s.most ≠ 0 := hm
    have hk' : k ∉ hKeys s.srt := hk
    have hi : s.Inv := h
    show Pol.Inv (.lfu (s.req k).1) ∧ Miss (hKeys s.srt) (hKeys (s.req k).1.srt) s.most k (s.req k).2
    unfold Lfu.req
    rw [if_neg hm', if_neg (by rw [Lfu.has_res hi, decide_eq_true_iff]; exact hk')]
    by_cases hl : s.most ≤ s.srt.length
    · rw [if_pos hl]
      have hne : s.srt ≠ [] := fun e => by rw [e] at hl; exact hm' (Nat.le_zero.1 hl)
      obtain ⟨p1, p2⟩ := Lfu.pop_inv hi hne
      obtain ⟨a1, a2⟩ := Lfu.ask_inv p1 k
      exact ⟨a1, .full _ (by rw [hKeys_len]; omega) (hFirst_mem hne) fun c => by rw [a2, p2]⟩
    · rw [if_neg hl]
      obtain ⟨a1, a2⟩ := Lfu.ask_inv hi k
      exact ⟨a1, .less (by rw [hKeys_len]; omega) a2⟩
  | sr s => exact Sr.miss_res h k hk hm
/-! ### Ghosts -/
def Pol.ghosts : Pol → List ByteArray
  | .lru _ => []
  | .lfu _ => []
  | .sr s => s.g
theorem Pol.req_ghosts (p : Pol) (k : ByteArray) (ho : (p.req k).2.out = false) (hg : p.ghosts = []) : (p.req k).1.ghosts = [] := by
  cases p with
  | lru s => rfl
  | lfu s => rfl
  | sr s =>
    have hg' : s.g = [] := hg
    have ho' : (s.req k).2.out = false := ho
    show (s.req k).1.g = []
    by_cases hm : s.most = 0
    · unfold Sr.req; rw [if_pos hm]; exact hg'
    by_cases ha : k ∈ s.a
    · unfold Sr.req; rw [if_neg hm, if_pos ha]; exact hg'
    by_cases hn : k ∈ s.n
    · unfold Sr.req; rw [if_neg hm, if_neg ha, if_pos hn]
      exact (Sr.again_g _ _).trans hg'
    rw [Sr.req_miss hm ha hn] at ho' ⊢
    obtain ⟨s1, hs1⟩ : ∃ s1 : Sr, { s with target := if s.marks.has k = true ∧ ((s.marks.get k).getD (false, false)).1 = false ∧ 1 < s.target then s.target - 1 else s.target, g := kDel s.g k } = s1 := ⟨_, rfl⟩
    have e : s1.g = [] := by rw [← hs1]; dsimp only; rw [hg']; rfl
    rw [hs1] at ho' ⊢
    clear hs1
    have e2 : (if s1.most ≤ s1.len then (⟨false, kLast s1.row, !s1.row.isEmpty⟩ : Stp) else ⟨false, bNil, false⟩).out = false → (if s1.most ≤ s1.len then s1.evict else s1).g = [] := by
      split
      · intro ho
        have hr : s1.row = [] := by simpa using ho
        unfold Sr.evict
        rw [if_pos hr]
        exact e
      · exact fun _ => e
    unfold Sr.miss at ho' ⊢
    cases hkn : s.marks.has k with
    | true =>
      rw [hkn, if_pos rfl] at ho'
      rw [if_pos rfl]
      exact (Sr.again_g _ _).trans (e2 ho')
    | false =>
      rw [hkn, if_neg (by decide)] at ho'
      rw [if_neg (by decide)]
      exact e2 ho'
theorem Pol.remove_ghosts (p : Pol) (k : ByteArray) : k ∉ (p.remove k).ghosts ∧ ∀ c, c ∈ (p.remove k).ghosts → c ∈ p.ghosts := by
  cases p with
  | lru s => exact ⟨(fun h => by cases h), fun c h => h⟩
  | lfu s => exact ⟨(fun h => by cases h), fun c h => h⟩
  | sr s => exact ⟨fun h => (kDel_mem.1 h).2 rfl, fun c h => (kDel_mem.1 h).1⟩
end Go.Proofs.YtbbdimlpofjlfaaGreatDoor
/- Arc's residents; who goes at a resizing: no program in sight. -/
namespace Go.Proofs.YtbbdimlpofjlfaaGreatDoor
open Go Go.RowKit

/-! ### How often a key stands in a row -/
def cn (c : ByteArray) (l : List ByteArray) : Nat := l.countP fun x => decide (x = c)
theorem mem_cn {c : ByteArray} {l : List ByteArray} : c ∈ l ↔ 0 < cn c l := by
  unfold cn
  rw [List.countP_pos_iff]
  exact ⟨fun h => ⟨c, h, decide_eq_true rfl⟩, fun ⟨x, hx, e⟩ => of_decide_eq_true e ▸ hx⟩
theorem not_cn {c : ByteArray} {l : List ByteArray} : c ∉ l ↔ cn c l = 0 := by
  rw [mem_cn]; omega
theorem cn_app (c : ByteArray) (l m : List ByteArray) : cn c (l ++ m) = cn c l + cn c m := List.countP_append
theorem cn_cons (c x : ByteArray) (l : List ByteArray) : cn c (x :: l) = cn c l + if c = x then 1 else 0 := by
  unfold cn
  rw [List.countP_cons]
  by_cases h : c = x
  · subst h; simp
  · have : ¬ x = c := fun e => h e.symm
    simp [h, this]
theorem cn_del (c k : ByteArray) (l : List ByteArray) : cn c (kDel l k) = if c = k then 0 else cn c l := by
  induction l with
  | nil => unfold kDel cn; simp
  | cons x l ih =>
    unfold kDel at ih ⊢
    rw [List.filter_cons]
    by_cases hx : x = k
    · subst hx
      rw [if_neg (by simp), ih]
      by_cases hc : c = x
      · rw [if_pos hc, if_pos hc]
      · rw [if_neg hc, if_neg hc, cn_cons, if_neg hc]; rfl
    · rw [if_pos (by simp [hx]), cn_cons, ih, cn_cons]
      by_cases hc : c = k
      · subst hc
        have : ¬ c = x := fun e => hx e.symm
        rw [if_pos rfl, if_pos rfl, if_neg this]
      · rw [if_neg hc, if_neg hc]
theorem cn_front (c k : ByteArray) (l : List ByteArray) : cn c (kFront l k) = if c = k then 1 else cn c l := by
  unfold kFront
  rw [cn_cons, cn_del]
  split <;> rfl
theorem cn_last (c : ByteArray) {l : List ByteArray} (h : l ≠ []) : cn c l.dropLast + (if c = kLast l then 1 else 0) = cn c l := by
  conv => rhs; rw [← kLast_split h, cn_app, cn_cons]
  have : cn c [] = 0 := rfl
  omega
theorem cn_take (c : ByteArray) (l : List ByteArray) (n : Nat) : cn c (l.take n) ≤ cn c l := (List.take_sublist n l).countP_le
theorem cn_dropLast (c : ByteArray) (l : List ByteArray) : cn c l.dropLast ≤ cn c l := (List.dropLast_sublist l).countP_le
theorem cn_rev (c : ByteArray) (l : List ByteArray) : cn c l.reverse = cn c l := by unfold cn; rw [List.countP_reverse]
theorem nodup_cn {l : List ByteArray} : l.Nodup ↔ ∀ c, cn c l ≤ 1 := by
  induction l with
  | nil => exact ⟨fun _ c => Nat.zero_le _, fun _ => List.nodup_nil⟩
  | cons x l ih =>
    rw [List.nodup_cons, ih]
    constructor
    · rintro ⟨h1, h2⟩ c
      rw [cn_cons]
      by_cases hc : c = x
      · subst hc; rw [if_pos rfl, not_cn.1 h1]; exact Nat.le_refl 1
      · rw [if_neg hc]; exact h2 c
    · intro h
      refine ⟨not_cn.2 ?_, fun c => ?_⟩
      · have := h x
        rw [cn_cons, if_pos rfl] at this
        omega
      · have := h c
        rw [cn_cons] at this
        omega
/-! ### Lengths -/
theorem len_add {l m : List ByteArray} {k : ByteArray} (hl : l.Nodup) (hm : m.Nodup) (hk : k ∉ l) (h : ∀ c, c ∈ m ↔ c = k ∨ c ∈ l) : m.length = l.length + 1 := by
  have := same_len hm (List.nodup_cons.2 ⟨hk, hl⟩) (fun c => by rw [h, List.mem_cons])
  rw [this]; rfl
theorem len_sub {l m : List ByteArray} {k : ByteArray} (hl : l.Nodup) (hm : m.Nodup) (hk : k ∈ l) (h : ∀ c, c ∈ m ↔ c ∈ l ∧ c ≠ k) : m.length + 1 = l.length := by
  have := len_add (k := k) hm hl (fun hc => ((h k).1 hc).2 rfl) (fun c => by
    rw [h]
    constructor
    · intro hc
      by_cases e : c = k
      · exact .inl e
      · exact .inr ⟨hc, e⟩
    · rintro (rfl | hc)
      · exact hk
      · exact hc.1)
  omega
/-- Of R these went, in some order; those of R' stayed. -/
structure Goes (R R' out : List ByteArray) : Prop where
  nodup : out.Nodup
  all : ∀ c, c ∈ R ↔ c ∈ R' ∨ c ∈ out
  dis : ∀ c ∈ out, c ∉ R'
theorem Goes.none (R : List ByteArray) : Goes R R [] := ⟨List.nodup_nil, fun c => by simp, fun c h => by cases h⟩
theorem Goes.cons {R R1 R2 out : List ByteArray} {v : ByteArray} (hv : v ∈ R) (h1 : ∀ c, c ∈ R1 ↔ c ∈ R ∧ c ≠ v) (h : Goes R1 R2 out) : Goes R R2 (v :: out) := by
  refine ⟨List.nodup_cons.2 ⟨fun hc => ?_, h.nodup⟩, fun c => ?_, fun c hc => ?_⟩
  · exact ((h1 v).1 ((h.all v).2 (.inr hc))).2 rfl
  · rw [List.mem_cons]
    by_cases e : c = v
    · subst e
      exact ⟨fun _ => .inr (.inl rfl), fun _ => hv⟩
    · have := h1 c
      rw [h.all c] at this
      constructor
      · intro hc
        rcases this.2 ⟨hc, e⟩ with h | h
        · exact .inl h
        · exact .inr (.inr h)
      · rintro (h | h | h)
        · exact (this.1 (.inl h)).1
        · exact absurd h e
        · exact (this.1 (.inr h)).1
  · rcases List.mem_cons.1 hc with rfl | hc
    · exact fun hx => ((h1 c).1 ((h.all c).2 (.inl hx))).2 rfl
    · exact h.dis c hc
theorem Goes.len {R R' out : List ByteArray} (h : Goes R R' out) (hR : R.Nodup) (hR' : R'.Nodup) : R.length = R'.length + out.length := by
  have hn : (R' ++ out).Nodup := List.nodup_append.2 ⟨hR', h.nodup, fun a ha b hb e => h.dis b hb (e ▸ ha)⟩
  rw [same_len hR hn (fun c => by rw [List.mem_append, h.all]), List.length_append]
/-! ### Arc -/
def Arc.res (s : Arc) : List ByteArray := s.t1 ++ s.t2
structure Arc.One (s : Arc) : Prop where
  one : ∀ c, cn c s.t1 + cn c s.t2 + cn c s.b1 + cn c s.b2 ≤ 1
structure Arc.Inv (s : Arc) : Prop extends Arc.One s where
  len : s.t1.length + s.t2.length ≤ s.most
theorem Arc.mem_res {s : Arc} {c : ByteArray} : c ∈ s.res ↔ 0 < cn c s.t1 + cn c s.t2 := by
  unfold Arc.res
  rw [mem_cn, cn_app]
theorem Arc.One.nodup {s : Arc} (h : s.One) : s.res.Nodup := nodup_cn.2 fun c => by
  unfold Arc.res
  rw [cn_app]
  have := h.one c
  omega
theorem Arc.len_res (s : Arc) : s.len = s.res.length := (List.length_append).symm
theorem Arc.has_res (s : Arc) (k : ByteArray) : s.has k = decide (k ∈ s.res) := by
  show (decide (k ∈ s.t1) || decide (k ∈ s.t2)) = decide (k ∈ s.t1 ++ s.t2)
  rw [← Bool.decide_or]
  exact decide_eq_decide.2 List.mem_append.symm
theorem Arc.first_ne {s : Arc} {d : Bool} (h : s.first d = true) : s.t1 ≠ [] := fun e => by
  unfold Arc.first at h
  rw [e] at h
  simp at h
/-- One went, as a ghost. -/
structure Arc.Went (s r : Arc) (v : ByteArray) : Prop where
  most : r.most = s.most
  one : r.One
  res : ∀ c, c ∈ r.res ↔ c ∈ s.res ∧ c ≠ v
  mem : v ∈ s.res
  gh : ∀ c, c ∉ s.res → cn c r.b1 ≤ cn c s.b1 ∧ cn c r.b2 ≤ cn c s.b2
theorem Arc.yield_went {s : Arc} (h : s.One) (d : Bool) (hl : s.res ≠ []) : ∃ v, (s.yield d).2 = (v, true) ∧ Arc.Went s (s.yield d).1 v := by
  have go : ∀ (r : Arc) (v : ByteArray), r.most = s.most → (∀ c, cn c r.t1 + cn c r.t2 + (if c = v then 1 else 0) = cn c s.t1 + cn c s.t2) → (∀ c, cn c r.b1 + cn c r.b2 ≤ if c = v then 1 else cn c s.b1 + cn c s.b2) → (∀ c, c ≠ v → cn c r.b1 ≤ cn c s.b1 ∧ cn c r.b2 ≤ cn c s.b2) → Arc.Went s r v := by
    intro r v hm ht hb hg
    have hv : v ∈ s.res := Arc.mem_res.2 (by have := ht v; rw [if_pos rfl] at this; omega)
    refine ⟨hm, ⟨fun c => ?_⟩, fun c => ?_, hv, fun c hc => hg c (fun e => hc (e ▸ hv))⟩
    · have h1 := h.one c
      have h2 := ht c
      have h3 := hb c
      by_cases e : c = v
      · rw [if_pos e] at h2 h3; omega
      · rw [if_neg e] at h2 h3; omega
    · rw [Arc.mem_res, Arc.mem_res]
      have h1 := h.one c
      have h2 := ht c
      by_cases e : c = v
      · rw [if_pos e] at h2
        exact ⟨fun h3 => by omega, fun h3 => absurd e h3.2⟩
      · rw [if_neg e] at h2
        exact ⟨fun h3 => ⟨by omega, e⟩, fun h3 => by omega⟩
  unfold Arc.yield
  by_cases hf : s.first d = true
  · rw [if_pos hf]
    have hne : s.t1 ≠ [] := Arc.first_ne hf
    refine ⟨_, rfl, go _ _ rfl (fun c => ?_) (fun c => ?_) fun c e => ?_⟩
    · have := cn_last c hne
      dsimp only
      omega
    · dsimp only
      rw [cn_front]
      have h1 := h.one c
      have h2 := cn_last c hne
      by_cases e : c = kLast s.t1
      · rw [if_pos e] at h2 ⊢; rw [if_pos e]; omega
      · rw [if_neg e, if_neg e]; omega
    · dsimp only
      rw [cn_front, if_neg e]
      omega
  · rw [if_neg hf]
    have hne : s.t2 ≠ [] := fun e => by
      refine hf ?_
      have h5 : s.t2.length = 0 := by rw [e]; rfl
      have h6 : 0 < s.t1.length := List.length_pos_iff.2 fun e1 => hl (by unfold Arc.res; rw [e, e1]; rfl)
      unfold Arc.first
      simp only [Bool.and_eq_true, Bool.or_eq_true, decide_eq_true_eq]
      exact ⟨h6, .inr h5⟩
    rw [if_neg hne]
    refine ⟨_, rfl, go _ _ rfl (fun c => ?_) (fun c => ?_) fun c e => ?_⟩
    · have := cn_last c hne
      dsimp only
      omega
    · dsimp only
      rw [cn_front]
      have h1 := h.one c
      have h2 := cn_last c hne
      by_cases e : c = kLast s.t2
      · rw [if_pos e] at h2 ⊢; rw [if_pos e]; omega
      · rw [if_neg e, if_neg e]; omega
    · dsimp only
      rw [cn_front, if_neg e]
      omega
/-- Room is there: it was, or one went. -/
structure Arc.Pre (s r : Arc) (x : ByteArray × Bool) : Prop where
  most : r.most = s.most
  one : r.One
  gh : ∀ c, c ∉ s.res → cn c r.b1 ≤ cn c s.b1 ∧ cn c r.b2 ≤ cn c s.b2
  way : (x = (bNil, false) ∧ s.res.length < s.most ∧ ∀ c, c ∈ r.res ↔ c ∈ s.res) ∨ (∃ v, x = (v, true) ∧ ¬ s.res.length < s.most ∧ v ∈ s.res ∧ ∀ c, c ∈ r.res ↔ c ∈ s.res ∧ c ≠ v)
theorem Arc.room_pre {s s1 : Arc} (h : s.One) (hm : s.most ≠ 0) (e1 : s1.t1 = s.t1) (e2 : s1.t2 = s.t2) (e3 : s1.most = s.most) (e4 : ∀ c, cn c s1.b1 ≤ cn c s.b1) (e5 : ∀ c, cn c s1.b2 ≤ cn c s.b2) (d : Bool) :
    Arc.Pre s (s1.room d).1 (s1.room d).2 := by
  have er : s1.res = s.res := by unfold Arc.res; rw [e1, e2]
  have h1 : s1.One := ⟨fun c => by have := h.one c; have := e4 c; have := e5 c; rw [e1, e2]; omega⟩
  unfold Arc.room
  rw [Arc.len_res, er, e3]
  by_cases hl : s.res.length < s.most
  · rw [if_pos hl]
    exact ⟨e3, h1, fun c _ => ⟨e4 c, e5 c⟩, .inl ⟨rfl, hl, fun c => by rw [er]⟩⟩
  · rw [if_neg hl]
    obtain ⟨v, hv, w⟩ := Arc.yield_went h1 d (fun e => by rw [er] at e; rw [e] at hl; exact hl (Nat.pos_of_ne_zero hm))
    rw [hv]
    refine ⟨w.most.trans e3, w.one, fun c hc => ?_, .inr ⟨v, rfl, hl, by rw [← er]; exact w.mem, fun c => by rw [w.res, er]⟩⟩
    have := w.gh c (by rw [er]; exact hc)
    have := e4 c
    have := e5 c
    omega
theorem Arc.fresh_pre {s : Arc} (h : s.Inv) (hm : s.most ≠ 0) : Arc.Pre s s.fresh.1 s.fresh.2 := by
  have ht : s.t1.length + s.t2.length = s.res.length := (List.length_append).symm
  unfold Arc.fresh
  by_cases h1 : s.most ≤ s.t1.length + s.b1.length
  · rw [if_pos h1]
    by_cases h2 : s.most ≤ s.t1.length
    · rw [if_pos h2]
      have hl := h.len
      have hne : s.t1 ≠ [] := fun e => by rw [e] at h2; exact hm (Nat.le_zero.1 h2)
      have hb : (!s.t1.isEmpty) = true := by cases hq : s.t1 with | nil => exact absurd hq hne | cons => rfl
      refine ⟨rfl, ⟨fun c => ?_⟩, fun c _ => ⟨Nat.le_refl _, Nat.le_refl _⟩, .inr ⟨kLast s.t1, by rw [hb], by omega, ?_, fun c => ?_⟩⟩
      · have := h.one c
        have := cn_dropLast c s.t1
        dsimp only
        omega
      · exact Arc.mem_res.2 (by have := cn_last (kLast s.t1) hne; rw [if_pos rfl] at this; omega)
      · rw [Arc.mem_res, Arc.mem_res]
        dsimp only
        have h3 := h.one c
        have h4 := cn_last c hne
        by_cases e : c = kLast s.t1
        · rw [if_pos e] at h4
          exact ⟨fun h5 => by omega, fun h5 => absurd e h5.2⟩
        · rw [if_neg e] at h4
          exact ⟨fun h5 => ⟨by omega, e⟩, fun h5 => by omega⟩
    · rw [if_neg h2]
      exact Arc.room_pre (s1 := { s with b1 := s.b1.dropLast }) h.toOne hm rfl rfl rfl (fun c => cn_dropLast c s.b1) (fun c => Nat.le_refl _) false
  · rw [if_neg h1]
    split
    · exact Arc.room_pre (s1 := { s with b2 := s.b2.dropLast }) h.toOne hm rfl rfl rfl (fun c => Nat.le_refl _) (fun c => cn_dropLast c s.b2) false
    split
    · rename_i h3
      have : s.res.length < s.most := by unfold Arc.size at h3; omega
      exact ⟨rfl, h.toOne, fun c _ => ⟨Nat.le_refl _, Nat.le_refl _⟩, .inl ⟨rfl, this, fun c => Iff.rfl⟩⟩
    · exact Arc.room_pre h.toOne hm rfl rfl rfl (fun c => Nat.le_refl _) (fun c => Nat.le_refl _) false
/-- The key comes in. -/
theorem Arc.Pre.ends {s r f : Arc} {x : ByteArray × Bool} {k : ByteArray} (p : Arc.Pre s r x) (h : s.Inv) (hk : k ∉ s.res) (hm : f.most = r.most) (ht : ∀ c, cn c f.t1 + cn c f.t2 = if c = k then 1 else cn c r.t1 + cn c r.t2) (hb : ∀ c, cn c f.b1 + cn c f.b2 ≤ if c = k then 0 else cn c r.b1 + cn c r.b2) :
    f.Inv ∧ Miss s.res f.res s.most k ⟨false, x.1, x.2⟩ := by
  have hf : f.One := ⟨fun c => by
    have h1 := ht c
    have h2 := hb c
    have h3 := p.one.one c
    by_cases e : c = k
    · rw [if_pos e] at h1 h2; omega
    · rw [if_neg e] at h1 h2; omega⟩
  have hkr : k ∉ r.res := fun hc => by
    rcases p.way with ⟨_, _, w⟩ | ⟨v, _, _, _, w⟩
    · exact hk ((w k).1 hc)
    · exact hk ((w k).1 hc).1
  have hfr : ∀ c, c ∈ f.res ↔ c = k ∨ c ∈ r.res := fun c => by
    rw [Arc.mem_res, Arc.mem_res]
    have h1 := ht c
    by_cases e : c = k
    · rw [if_pos e] at h1
      exact ⟨fun _ => .inl e, fun _ => by omega⟩
    · rw [if_neg e] at h1
      exact ⟨fun h2 => .inr (by omega), fun h2 => h2.elim (fun h => absurd h e) (fun h => by omega)⟩
  have hfl := len_add p.one.nodup hf.nodup hkr hfr
  have hsl : s.res.length ≤ s.most := by have := h.len; unfold Arc.res; rw [List.length_append]; exact this
  have hlen : f.t1.length + f.t2.length = f.res.length := (List.length_append).symm
  have hmost : f.most = s.most := hm.trans p.most
  rcases p.way with ⟨rfl, w1, w2⟩ | ⟨v, rfl, w1, w2, w3⟩
  · have hrl := same_len p.one.nodup h.nodup w2
    exact ⟨⟨hf, by omega⟩, .less w1 fun c => by rw [hfr, w2]⟩
  · have hrl := len_sub h.nodup p.one.nodup w2 w3
    exact ⟨⟨hf, by omega⟩, .full v w1 w2 fun c => by rw [hfr, w3]⟩
theorem Arc.miss_res {s : Arc} (h : s.Inv) (k : ByteArray) (hk : k ∉ s.res) (hm : s.most ≠ 0) : (s.req k).1.Inv ∧ Miss s.res (s.req k).1.res s.most k (s.req k).2 := by
  have hc0 : cn k s.t1 + cn k s.t2 = 0 := by
    have := (not_congr (Arc.mem_res (s := s) (c := k))).1 hk
    omega
  have hk1 : k ∉ s.t1 := not_cn.2 (by omega)
  have hk2 : k ∉ s.t2 := not_cn.2 (by omega)
  unfold Arc.req
  rw [if_neg hm, if_neg hk1, if_neg hk2]
  have res0 : ∀ {r : Arc} {x : ByteArray × Bool}, Arc.Pre s r x → cn k r.t1 + cn k r.t2 = 0 := fun p => by
    have : k ∉ Arc.res _ := fun hc => by
      rcases p.way with ⟨_, _, w⟩ | ⟨v, _, _, _, w⟩
      · exact hk ((w k).1 hc)
      · exact hk ((w k).1 hc).1
    have := (not_congr Arc.mem_res).1 this
    omega
  by_cases hb1 : k ∈ s.b1
  · rw [if_pos hb1]
    dsimp only
    obtain ⟨p, hp⟩ : ∃ p, min s.most (s.p + max 1 (s.b2.length / s.b1.length)) = p := ⟨_, rfl⟩
    rw [hp]
    have pre := Arc.room_pre (s1 := { s with p := p }) h.toOne hm rfl rfl rfl (fun c => Nat.le_refl _) (fun c => Nat.le_refl _) false
    obtain ⟨r, hr⟩ : ∃ r, ({ s with p := p } : Arc).room false = r := ⟨_, rfl⟩
    rw [hr] at pre ⊢
    have hb2 : cn k s.b2 = 0 := by have := h.one k; have := mem_cn.1 hb1; omega
    have h0 := res0 pre
    refine pre.ends h hk rfl (fun c => ?_) fun c => ?_
    · dsimp only
      rw [cn_front]
      split
      · rename_i e; subst e; omega
      · rfl
    · dsimp only
      rw [cn_del]
      split
      · rename_i e; subst e; have := (pre.gh c hk).2; omega
      · omega
  · rw [if_neg hb1]
    by_cases hb2 : k ∈ s.b2
    · rw [if_pos hb2]
      dsimp only
      obtain ⟨p, hp⟩ : ∃ p, s.p - max 1 (s.b1.length / s.b2.length) = p := ⟨_, rfl⟩
      rw [hp]
      have pre := Arc.room_pre (s1 := { s with p := p }) h.toOne hm rfl rfl rfl (fun c => Nat.le_refl _) (fun c => Nat.le_refl _) true
      obtain ⟨r, hr⟩ : ∃ r, ({ s with p := p } : Arc).room true = r := ⟨_, rfl⟩
      rw [hr] at pre ⊢
      have hb1' := not_cn.1 hb1
      have h0 := res0 pre
      refine pre.ends h hk rfl (fun c => ?_) fun c => ?_
      · dsimp only
        rw [cn_front]
        split
        · rename_i e; subst e; omega
        · rfl
      · dsimp only
        rw [cn_del]
        split
        · rename_i e; subst e; have := (pre.gh c hk).1; omega
        · omega
    · rw [if_neg hb2]
      have pre := Arc.fresh_pre h hm
      obtain ⟨r, hr⟩ : ∃ r, s.fresh = r := ⟨_, rfl⟩
      dsimp only
      rw [hr] at pre ⊢
      have hb1' := not_cn.1 hb1
      have hb2' := not_cn.1 hb2
      have h0 := res0 pre
      refine pre.ends h hk rfl (fun c => ?_) fun c => ?_
      · dsimp only
        rw [cn_front]
        split
        · rename_i e; subst e; omega
        · rfl
      · dsimp only
        split
        · rename_i e; subst e; have := pre.gh c hk; omega
        · omega
theorem Arc.hit_res {s : Arc} (h : s.Inv) (k : ByteArray) (hk : k ∈ s.res) (hm : s.most ≠ 0) : (s.req k).1.Inv ∧ (∀ c, c ∈ (s.req k).1.res ↔ c ∈ s.res) ∧ (s.req k).2 = ⟨true, bNil, false⟩ := by
  have hone := h.one k
  have go : ∀ f : Arc, f.most = s.most → (∀ c, cn c f.t1 + cn c f.t2 = cn c s.t1 + cn c s.t2) → f.b1 = s.b1 → f.b2 = s.b2 → f.Inv ∧ (∀ c, c ∈ f.res ↔ c ∈ s.res) := by
    intro f h1 h2 h3 h4
    have hf : f.One := ⟨fun c => by have := h.one c; have := h2 c; rw [h3, h4]; omega⟩
    have hr : ∀ c, c ∈ f.res ↔ c ∈ s.res := fun c => by rw [Arc.mem_res, Arc.mem_res, h2]
    have hl := same_len hf.nodup h.nodup hr
    unfold Arc.res at hl
    rw [List.length_append, List.length_append] at hl
    exact ⟨⟨hf, by have := h.len; omega⟩, hr⟩
  unfold Arc.req
  rw [if_neg hm]
  by_cases h1 : k ∈ s.t1
  · rw [if_pos h1]
    have hc := mem_cn.1 h1
    obtain ⟨g1, g2⟩ := go { s with t1 := kDel s.t1 k, t2 := kFront s.t2 k } rfl (fun c => by
      dsimp only
      rw [cn_del, cn_front]
      split
      · rename_i e; subst e; omega
      · rfl) rfl rfl
    exact ⟨g1, g2, rfl⟩
  · rw [if_neg h1]
    have h2 : k ∈ s.t2 := (List.mem_append.1 hk).elim (fun h => absurd h h1) id
    rw [if_pos h2]
    have hc := mem_cn.1 h2
    obtain ⟨g1, g2⟩ := go { s with t2 := kFront (kDel s.t2 k) k } rfl (fun c => by
      dsimp only
      rw [cn_front, cn_del]
      split
      · rename_i e; subst e; omega
      · rfl) rfl rfl
    exact ⟨g1, g2, rfl⟩
theorem Arc.off_rows {s : Arc} (h : s.One) (k : ByteArray) : (s.off k).most = s.most ∧ (∀ c, cn c (s.off k).t1 = if c = k then 0 else cn c s.t1) ∧ (∀ c, cn c (s.off k).t2 = if c = k then 0 else cn c s.t2) ∧ (∀ c, cn c (s.off k).b1 = if c = k then 0 else cn c s.b1) ∧ (∀ c, cn c (s.off k).b2 = if c = k then 0 else cn c s.b2) := by
  have hone := h.one k
  have key : ∀ l : List ByteArray, cn k l = 0 → ∀ c, cn c l = if c = k then 0 else cn c l := fun l hl c => by
    split
    · rename_i e; subst e; exact hl
    · rfl
  unfold Arc.off
  by_cases h1 : k ∈ s.t1
  · rw [if_pos h1]
    have hc := mem_cn.1 h1
    exact ⟨rfl, fun c => cn_del c k _, key s.t2 (by omega), key s.b1 (by omega), key s.b2 (by omega)⟩
  rw [if_neg h1]
  have h1' := not_cn.1 h1
  by_cases h2 : k ∈ s.t2
  · rw [if_pos h2]
    have hc := mem_cn.1 h2
    exact ⟨rfl, key _ h1', fun c => cn_del c k _, key s.b1 (by omega), key s.b2 (by omega)⟩
  rw [if_neg h2]
  have h2' := not_cn.1 h2
  by_cases h3 : k ∈ s.b1
  · rw [if_pos h3]
    have hc := mem_cn.1 h3
    exact ⟨rfl, key _ h1', key _ h2', fun c => cn_del c k _, key s.b2 (by omega)⟩
  rw [if_neg h3]
  exact ⟨rfl, key _ h1', key _ h2', key _ (not_cn.1 h3), fun c => cn_del c k _⟩
theorem Arc.off_res {s : Arc} (h : s.Inv) (k : ByteArray) : (s.off k).Inv ∧ (∀ c, c ∈ (s.off k).res ↔ c ∈ s.res ∧ c ≠ k) ∧ k ∉ (s.off k).b1 ∧ k ∉ (s.off k).b2 ∧ (s.off k).most = s.most := by
  obtain ⟨e0, e1, e2, e3, e4⟩ := Arc.off_rows h.toOne k
  have hf : (s.off k).One := ⟨fun c => by
    rw [e1, e2, e3, e4]
    have := h.one c
    split <;> omega⟩
  have hr : ∀ c, c ∈ (s.off k).res ↔ c ∈ s.res ∧ c ≠ k := fun c => by
    rw [Arc.mem_res, Arc.mem_res, e1, e2]
    by_cases e : c = k
    · rw [if_pos e, if_pos e]
      exact ⟨fun h => by omega, fun h => absurd e h.2⟩
    · rw [if_neg e, if_neg e]
      exact ⟨fun h => ⟨h, e⟩, fun h => h.1⟩
  have hl : (s.off k).res.length ≤ s.res.length := sub_len hf.nodup fun c hc => ((hr c).1 hc).1
  unfold Arc.res at hl
  rw [List.length_append, List.length_append] at hl
  exact ⟨⟨hf, by have := h.len; omega⟩, hr, not_cn.2 (by rw [e3, if_pos rfl]), not_cn.2 (by rw [e4, if_pos rfl]), e0⟩
theorem Arc.victim_res {s : Arc} (h : s.Inv) : s.victim.2 = !s.res.isEmpty ∧ (s.res ≠ [] → s.victim.1 ∈ s.res) := by
  have h0 : s.t1 = [] → (!s.res.isEmpty) = !s.t2.isEmpty := fun e => by unfold Arc.res; rw [e]; rfl
  have h1 : s.t1 ≠ [] → (!s.t1.isEmpty) = !s.res.isEmpty ∧ kLast s.t1 ∈ s.res := fun e => by
    have := kLast_mem e
    refine ⟨?_, List.mem_append.2 (.inl this)⟩
    unfold Arc.res
    cases hq : s.t1 with
    | nil => exact absurd hq e
    | cons => rfl
  have hl := h.len
  have hf : s.first false = true → s.t1 ≠ [] := fun h => Arc.first_ne h
  have hn : s.first false ≠ true → s.t2 = [] → s.t1 = [] := fun h2 e => by
    cases hq : s.t1 with
    | nil => rfl
    | cons x l =>
      exfalso
      refine h2 ?_
      have h5 : s.t2.length = 0 := by rw [e]; rfl
      have h6 : 0 < s.t1.length := by rw [hq]; simp
      unfold Arc.first
      simp only [Bool.and_eq_true, Bool.or_eq_true, decide_eq_true_eq]
      exact ⟨h6, .inr h5⟩
  unfold Arc.victim
  by_cases hm : s.most ≤ s.t1.length
  · rw [if_pos hm]
    by_cases hq : s.t1 = []
    · have : s.res = [] := by
        unfold Arc.res
        have h7 : s.t1.length = 0 := by rw [hq]; rfl
        have h8 : s.t2 = [] := List.length_eq_zero_iff.1 (by omega)
        rw [hq, h8]; rfl
      rw [hq, this]
      exact ⟨rfl, fun h => absurd rfl h⟩
    · exact ⟨(h1 hq).1, fun _ => (h1 hq).2⟩
  · rw [if_neg hm]
    by_cases hq : s.first false = true
    · rw [if_pos hq]
      exact ⟨(h1 (hf hq)).1, fun _ => (h1 (hf hq)).2⟩
    · rw [if_neg hq]
      by_cases ht : s.t2 = []
      · have hz := hn hq ht
        have : s.res = [] := by unfold Arc.res; rw [ht, hz]; rfl
        rw [ht, this]
        exact ⟨rfl, fun h => absurd rfl h⟩
      · refine ⟨?_, fun _ => List.mem_append.2 (.inr (kLast_mem ht))⟩
        show (!s.t2.isEmpty) = !(s.t1 ++ s.t2).isEmpty
        cases h8 : s.t2 with
        | nil => exact absurd h8 ht
        | cons x l => cases s.t1 <;> rfl
theorem Arc.trim_res {s : Arc} (h : s.Inv) : s.trim.Inv ∧ s.trim.res = s.res ∧ s.trim.most = s.most ∧ (∀ c, c ∈ s.trim.b1 → c ∈ s.b1) ∧ (∀ c, c ∈ s.trim.b2 → c ∈ s.b2) := by
  refine ⟨⟨⟨fun c => ?_⟩, h.len⟩, rfl, rfl, fun c hc => List.mem_of_mem_take hc, fun c hc => List.mem_of_mem_take hc⟩
  have h1 := h.one c
  have h2 := cn_take c s.b1 (s.most - s.t1.length)
  have h3 := cn_take c s.b2 (s.most + s.most - (s.t1.length + s.t2.length + (s.b1.take (s.most - s.t1.length)).length))
  unfold Arc.trim
  dsimp only
  omega
theorem Arc.adopt_no {s : Arc} (k : ByteArray) (hk : k ∈ s.res ∨ s.most ≤ s.res.length) : s.adopt k = (s, false) := by
  unfold Arc.adopt
  rw [if_pos]
  rw [Arc.has_res, Arc.len_res]
  exact hk.elim (fun h => .inl (decide_eq_true h)) .inr
theorem Arc.adopt_yes {s : Arc} (h : s.Inv) (k : ByteArray) (hk : k ∉ s.res) (hl : s.res.length < s.most) : (s.adopt k).1.Inv ∧ (∀ c, c ∈ (s.adopt k).1.res ↔ c = k ∨ c ∈ s.res) ∧ (s.adopt k).2 = true := by
  have e : s.adopt k = (Arc.trim { s.off k with t1 := kFront (s.off k).t1 k }, true) := by
    unfold Arc.adopt
    rw [if_neg]
    rw [Arc.has_res, Arc.len_res]
    rintro (h | h)
    · exact hk (of_decide_eq_true h)
    · omega
  rw [e]
  obtain ⟨o1, o2, o3, o4, o5⟩ := Arc.off_res h k
  obtain ⟨s1, hs1⟩ : ∃ s1 : Arc, { s.off k with t1 := kFront (s.off k).t1 k } = s1 := ⟨_, rfl⟩
  have hk1 : k ∉ (s.off k).res := fun hc => ((o2 k).1 hc).2 rfl
  have e1 : ∀ c, cn c s1.t1 = if c = k then 1 else cn c (s.off k).t1 := fun c => by rw [← hs1]; exact cn_front c k _
  have e2 : s1.t2 = (s.off k).t2 := by rw [← hs1]
  have e3 : s1.b1 = (s.off k).b1 := by rw [← hs1]
  have e4 : s1.b2 = (s.off k).b2 := by rw [← hs1]
  have e5 : s1.most = s.most := by rw [← hs1]; exact o5
  have z : cn k (s.off k).t1 + cn k (s.off k).t2 = 0 := by
    have := (not_congr (Arc.mem_res (s := s.off k) (c := k))).1 hk1
    omega
  have z3 := not_cn.1 o3
  have z4 := not_cn.1 o4
  have hone : s1.One := ⟨fun c => by
    rw [e1, e2, e3, e4]
    have := o1.one c
    split
    · rename_i e; subst e; omega
    · omega⟩
  have hr : ∀ c, c ∈ s1.res ↔ c = k ∨ c ∈ s.res := fun c => by
    rw [Arc.mem_res, e1, e2]
    by_cases e : c = k
    · rw [if_pos e]
      exact ⟨fun _ => .inl e, fun _ => by omega⟩
    · rw [if_neg e]
      have := o2 c
      rw [Arc.mem_res] at this
      rw [this]
      exact ⟨fun h => .inr h.1, fun h => h.elim (fun h => absurd h e) (fun h => ⟨h, e⟩)⟩
  have hlen := len_add h.nodup hone.nodup hk hr
  have hinv : s1.Inv := ⟨hone, by have h9 : s1.t1.length + s1.t2.length = s1.res.length := (List.length_append).symm; omega⟩
  rw [hs1]
  obtain ⟨t1, t2, _, _⟩ := Arc.trim_res hinv
  exact ⟨t1, fun c => by rw [t2, hr], rfl⟩
theorem Arc.drop_rows {s : Arc} (h : s.Inv) : s.drop.Inv ∧ s.drop.most = s.most ∧ s.drop.ghosts = s.ghosts ∧ (s.res ≠ [] → ∀ c, c ∈ s.drop.res ↔ c ∈ s.res ∧ c ≠ s.victim.1) ∧ (s.res = [] → s.drop = s) := by
  obtain ⟨v1, v2⟩ := Arc.victim_res h
  unfold Arc.drop
  rw [v1]
  by_cases hr : s.res = []
  · rw [hr]
    exact ⟨h, rfl, rfl, fun h => absurd rfl h, fun _ => rfl⟩
  · have hb : (!s.res.isEmpty) = true := by cases hq : s.res with | nil => exact absurd hq hr | cons => rfl
    rw [hb, if_pos rfl]
    obtain ⟨o1, o2, _, _, o5⟩ := Arc.off_res h s.victim.1
    refine ⟨o1, o5, ?_, fun _ => o2, fun h => absurd h hr⟩
    have hv := List.mem_append.1 (v2 hr)
    unfold Arc.off
    by_cases hv1 : s.victim.1 ∈ s.t1
    · rw [if_pos hv1]; rfl
    · rw [if_neg hv1, if_pos (hv.elim (fun h => absurd h hv1) id)]; rfl
theorem Arc.yieldN_goes : ∀ (j : Nat) {s : Arc}, s.One → j ≤ s.res.length → (Arc.yieldN j s).1.One ∧ (Arc.yieldN j s).1.most = s.most ∧ Goes s.res (Arc.yieldN j s).1.res (Arc.yieldN j s).2 ∧ (Arc.yieldN j s).2.length = j
  | 0, s, h, _ => ⟨h, rfl, Goes.none _, rfl⟩
  | j + 1, s, h, hj => by
    obtain ⟨v, hv, w⟩ := Arc.yield_went h false (fun e => by rw [e] at hj; simp at hj)
    have hl := len_sub h.nodup w.one.nodup w.mem w.res
    obtain ⟨i1, i2, i3, i4⟩ := Arc.yieldN_goes j w.one (by omega)
    have e1 : (Arc.yieldN (j + 1) s).1 = (Arc.yieldN j (s.yield false).1).1 := rfl
    have e2 : (Arc.yieldN (j + 1) s).2 = v :: (Arc.yieldN j (s.yield false).1).2 := by
      show (s.yield false).2.1 :: _ = _
      rw [hv]
    rw [e1, e2]
    exact ⟨i1, i2.trans w.most, i3.cons w.mem w.res, by rw [List.length_cons, i4]⟩
theorem Arc.resize_res {s : Arc} (h : s.Inv) (m : Nat) : (s.resize m).1.Inv ∧ (s.resize m).1.most = m ∧ Goes s.res (s.resize m).1.res (s.resize m).2 ∧ (s.resize m).2.length = s.res.length - m := by
  unfold Arc.resize
  dsimp only
  obtain ⟨s1, hs1⟩ : ∃ s1 : Arc, { s with most := m, p := min s.p m } = s1 := ⟨_, rfl⟩
  rw [hs1]
  have e1 : s1.res = s.res := by rw [← hs1]; rfl
  have e2 : s1.most = m := by rw [← hs1]
  have ho : s1.One := by rw [← hs1]; exact ⟨h.one⟩
  rw [Arc.len_res, e1]
  obtain ⟨i1, i2, i3, i4⟩ := Arc.yieldN_goes (s.res.length - m) ho (by rw [e1]; omega)
  rw [e1] at i3
  obtain ⟨r, hr⟩ : ∃ r, Arc.yieldN (s.res.length - m) s1 = r := ⟨_, rfl⟩
  rw [hr] at i1 i2 i3 i4 ⊢
  have hl := i3.len h.nodup i1.nodup
  have hr : r.1.t1.length + r.1.t2.length = r.1.res.length := (List.length_append).symm
  have hinv : r.1.Inv := ⟨i1, by rw [i2, e2]; omega⟩
  obtain ⟨t1, t2, t3, _⟩ := Arc.trim_res hinv
  exact ⟨t1, by rw [t3, i2, e2], by rw [t2]; exact i3, i4⟩
theorem Arc.new_inv (m : Nat) : (Arc.new m).Inv := ⟨⟨fun _ => Nat.zero_le _⟩, Nat.zero_le _⟩
/-- Nobody comes to be a ghost where nobody goes. -/
theorem Arc.req_ghosts {s : Arc} (h : s.Inv) (k : ByteArray) (hm : s.most ≠ 0) (ho : (s.req k).2.out = false) (hg : s.ghosts = []) : (s.req k).1.ghosts = [] := by
  obtain ⟨g1, g2⟩ := List.append_eq_nil_iff.1 hg
  revert ho
  unfold Arc.req
  rw [if_neg hm]
  split
  · exact fun _ => hg
  split
  · exact fun _ => hg
  rw [if_neg (by rw [g1]; simp), if_neg (by rw [g2]; simp)]
  dsimp only
  have hroom : ∀ d, (s.room d).2.2 = false → (s.room d).1 = s := fun d => by
    unfold Arc.room
    split
    · exact fun _ => rfl
    · rename_i hl
      intro hc
      obtain ⟨v, hv, _⟩ := Arc.yield_went h.toOne d (fun e => hl (by rw [Arc.len_res, e]; exact Nat.pos_of_ne_zero hm))
      rw [hv] at hc
      cases hc
  have hfresh : s.fresh.2.2 = false → s.fresh.1 = s := by
    unfold Arc.fresh
    have e1 : ({ s with b1 := s.b1.dropLast } : Arc) = s := by rw [g1]; show ({ s with b1 := [] } : Arc) = s; rw [← g1]
    have e2 : ({ s with b2 := s.b2.dropLast } : Arc) = s := by rw [g2]; show ({ s with b2 := [] } : Arc) = s; rw [← g2]
    rw [e1, e2]
    split
    · split
      · rename_i hl
        intro hc
        have : s.t1 = [] := by simpa using hc
        rw [this] at hl
        exact absurd (Nat.le_zero.1 hl) hm
      · exact hroom false
    split
    · exact hroom false
    split
    · exact fun _ => rfl
    · exact hroom false
  intro ho
  rw [hfresh ho]
  exact hg
end Go.Proofs.YtbbdimlpofjlfaaGreatDoor
/- Who goes from a policy, and from a learner, at a drop and at a resizing: no program in sight. -/
namespace Go.Proofs.YtbbdimlpofjlfaaGreatDoor
open Go Go.RowKit

def Pol.drop : Pol → Pol
  | .lru s => .lru ⟨s.most, s.ks.dropLast⟩
  | .lfu s => .lfu s.pop
  | .sr s => .sr s.drop
theorem kDel_kLast {l : List ByteArray} (hn : l.Nodup) (h : l ≠ []) : kDel l (kLast l) = l.dropLast := by
  have e := kLast_split h
  conv => lhs; rw [show kDel l (kLast l) = kDel (l.dropLast ++ kLast l :: []) (kLast l) by rw [e]]
  rw [kDel_mid (by rw [e]; exact hn), List.append_nil]
theorem Sr.drop_eq {s : Sr} (h : s.Inv) (hr : s.row ≠ []) : s.drop = s.remove (kLast s.row) := by
  have hm := Sr.row_mem hr
  have hg : kLast s.row ∉ s.g := (Sr.mem_res.1 hm).elim (h.ng _) (h.ag _)
  unfold Sr.drop
  rw [if_neg hr]
  unfold Sr.remove
  rw [kDel_none hg]
  unfold Sr.popRow
  unfold Sr.row at hr hm ⊢
  by_cases hn : 0 < s.n.length
  · rw [if_pos hn] at hr hm ⊢
    rw [if_pos hn, kDel_kLast h.n hr, if_pos (kLast_mem hr)]
  · rw [if_neg hn] at hr hm ⊢
    have hn0 : s.n = [] := List.length_eq_zero_iff.1 (by omega)
    rw [if_neg hn, hn0, if_neg (by simp), kDel_kLast h.a hr]
    rfl
theorem Pol.drop_res {p : Pol} (h : p.Inv) : p.drop.Inv ∧ p.drop.most = p.most ∧ p.drop.ghosts = p.ghosts ∧ (p.res ≠ [] → ∀ c, c ∈ p.drop.res ↔ c ∈ p.res ∧ c ≠ p.victim.1) ∧ (p.res = [] → p.drop = p) := by
  cases p with
  | lru s =>
    refine ⟨nodup_dropLast h, rfl, rfl, fun hr c => mem_dropLast h hr, fun hr => ?_⟩
    have hr' : s.ks = [] := hr
    show Pol.lru ⟨s.most, s.ks.dropLast⟩ = Pol.lru s
    cases s
    dsimp only at hr'
    subst hr'
    rfl
  | lfu s =>
    by_cases hs : s.srt = []
    · have e : s.pop = s := by
        cases s
        dsimp only at hs
        subst hs
        rfl
      show Pol.Inv (.lfu s.pop) ∧ s.pop.most = s.most ∧ _ ∧ (hKeys s.srt ≠ [] → _) ∧ (_ → Pol.lfu s.pop = Pol.lfu s)
      rw [e]
      exact ⟨h, rfl, rfl, fun hr => absurd (hKeys_nil.2 hs) hr, fun _ => rfl⟩
    · obtain ⟨p1, p2⟩ := Lfu.pop_inv h hs
      exact ⟨p1, rfl, rfl, fun _ => p2, fun hr => absurd (hKeys_nil.1 hr) hs⟩
  | sr s =>
    have h' : s.Inv := h
    by_cases hr : s.row = []
    · have e : s.drop = s := by unfold Sr.drop; rw [if_pos hr]
      show Pol.Inv (.sr s.drop) ∧ s.drop.most = s.most ∧ s.drop.g = s.g ∧ (s.res ≠ [] → _) ∧ (_ → Pol.sr s.drop = Pol.sr s)
      rw [e]
      exact ⟨h, rfl, rfl, fun hc => absurd (Sr.row_nil.1 hr) hc, fun _ => rfl⟩
    · obtain ⟨r1, r2⟩ := Sr.remove_inv h' (kLast s.row)
      have e := Sr.drop_eq h' hr
      refine ⟨?_, ?_, ?_, fun _ => ?_, fun hc => absurd (Sr.row_nil.2 hc) hr⟩
      · show s.drop.Inv
        rw [e]; exact r1
      · show s.drop.most = s.most
        rw [e]; rfl
      · show s.drop.g = s.g
        rw [e]
        exact kDel_none ((Sr.mem_res.1 (Sr.row_mem hr)).elim (h'.ng _) (h'.ag _))
      · show ∀ c, c ∈ s.drop.res ↔ c ∈ s.res ∧ c ≠ kLast s.row
        rw [e]; exact r2
theorem Sr.trim_inv {s : Sr} (h : s.Inv) : s.trim.Inv ∧ s.trim.res = s.res ∧ s.trim.most = s.most := by
  refine ⟨⟨h.n, h.a, nodup_take h.g _, h.na, fun c hc hg => h.ng c hc (List.mem_of_mem_take hg), fun c hc hg => h.ag c hc (List.mem_of_mem_take hg), fun c => ?_⟩, rfl, rfl⟩
  unfold Sr.trim
  dsimp only
  rw [delAll_has, h.marks, List.mem_reverse]
  obtain ⟨m1, m2⟩ := mem_take_drop h.g s.most c
  constructor
  · rintro ⟨hc | hc | hc, hd⟩
    · exact .inl hc
    · exact .inr (.inl hc)
    · rcases m1.1 hc with hc | hc
      · exact .inr (.inr hc)
      · exact absurd hc hd
  · rintro (hc | hc | hc)
    · exact ⟨.inl hc, fun hd => h.ng c hc (m1.2 (.inr hd))⟩
    · exact ⟨.inr (.inl hc), fun hd => h.ag c hc (m1.2 (.inr hd))⟩
    · exact ⟨.inr (.inr (m1.2 (.inl hc))), m2 hc⟩
theorem Sr.evictN_goes : ∀ (j : Nat) {s : Sr}, s.Inv → j ≤ s.res.length → (Sr.evictN j s).1.Inv ∧ (Sr.evictN j s).1.most = s.most ∧ Goes s.res (Sr.evictN j s).1.res (Sr.evictN j s).2 ∧ (Sr.evictN j s).2.length = j
  | 0, s, h, _ => ⟨h, rfl, Goes.none _, rfl⟩
  | j + 1, s, h, hj => by
    have hr : s.row ≠ [] := fun e => by rw [Sr.row_nil] at e; rw [e] at hj; simp at hj
    obtain ⟨e1, e2⟩ := Sr.evict_inv h hr
    have hl := len_sub h.nodup e1.nodup (Sr.row_mem hr) e2
    obtain ⟨i1, i2, i3, i4⟩ := Sr.evictN_goes j e1 (by omega)
    exact ⟨i1, i2.trans (Sr.evict_most s), i3.cons (Sr.row_mem hr) e2, by show (_ :: _).length = _; rw [List.length_cons, i4]⟩
theorem Pol.resize_res {p : Pol} (h : p.Inv) (m : Nat) : (p.resize m).1.Inv ∧ (p.resize m).1.most = m ∧ Goes p.res (p.resize m).1.res (p.resize m).2 ∧ (p.resize m).2.length = p.res.length - m := by
  cases p with
  | lru s =>
    have h' : s.ks.Nodup := h
    refine ⟨nodup_take h' m, rfl, ⟨(List.pairwise_reverse.2 ((nodup_drop h' m).imp fun h e => h e.symm)), fun c => ?_, fun c hc ht => ?_⟩, ?_⟩
    · show c ∈ s.ks ↔ c ∈ s.ks.take m ∨ c ∈ (s.ks.drop m).reverse
      rw [List.mem_reverse]
      exact (mem_take_drop h' m c).1
    · exact (mem_take_drop h' m c).2 ht (List.mem_reverse.1 hc)
    · show (s.ks.drop m).reverse.length = s.ks.length - m
      rw [List.length_reverse, List.length_drop]
  | lfu s =>
    have h' : s.Inv := h
    obtain ⟨n, hn⟩ : ∃ n, s.srt.length - m = n := ⟨_, rfl⟩
    have e1 : (Pol.resize (.lfu s) m).1 = .lfu ⟨m, s.now, s.churn, s.srt.drop n, s.came⟩ := by rw [← hn]; rfl
    have e2 : (Pol.resize (.lfu s) m).2 = hKeys (s.srt.take n) := by rw [← hn]; rfl
    have e3 : hKeys (s.srt.drop n) = (hKeys s.srt).drop n := List.map_drop
    have e4 : hKeys (s.srt.take n) = (hKeys s.srt).take n := List.map_take
    rw [e1, e2]
    have hd : ∀ x, x ∈ s.srt.drop n → x ∈ s.srt := fun x hx => List.mem_of_mem_drop hx
    refine ⟨⟨by rw [show hKeys (Lfu.srt _) = hKeys (s.srt.drop n) from rfl, e3]; exact nodup_drop h'.nd n, List.Pairwise.sublist (List.drop_sublist n _) h'.sorted, fun x hx => h'.cames x (hd x hx), h'.now, fun x hx => h'.ones x (hd x hx)⟩, rfl, ⟨?_, fun c => ?_, fun c hc ht => ?_⟩, ?_⟩
    · rw [e4]; exact nodup_take h'.nd n
    · show c ∈ hKeys s.srt ↔ c ∈ hKeys (s.srt.drop n) ∨ c ∈ hKeys (s.srt.take n)
      rw [e3, e4, (mem_take_drop h'.nd n c).1]
      exact or_comm
    · have ht' : c ∈ hKeys (s.srt.drop n) := ht
      rw [e3] at ht'
      rw [e4] at hc
      exact (mem_take_drop h'.nd n c).2 hc ht'
    · show (hKeys (s.srt.take n)).length = (hKeys s.srt).length - m
      rw [hKeys_len, hKeys_len, List.length_take]
      omega
  | sr s =>
    have h' : s.Inv := h
    obtain ⟨s1, hs1⟩ : ∃ s1 : Sr, { s with most := m, target := min s.target m } = s1 := ⟨_, rfl⟩
    have e1 : (Pol.resize (.sr s) m).1 = .sr (Sr.evictN (s1.len - m) s1).1.trim := by rw [← hs1]; rfl
    have e2 : (Pol.resize (.sr s) m).2 = (Sr.evictN (s1.len - m) s1).2 := by rw [← hs1]; rfl
    have hi : s1.Inv := by rw [← hs1]; exact ⟨h'.n, h'.a, h'.g, h'.na, h'.ng, h'.ag, h'.marks⟩
    have er : s1.res = s.res := by rw [← hs1]; rfl
    have em : s1.most = m := by rw [← hs1]
    have el : s1.len = s.res.length := by rw [← er]; exact (List.length_append).symm
    rw [e1, e2, el]
    obtain ⟨i1, i2, i3, i4⟩ := Sr.evictN_goes (s.res.length - m) hi (by rw [er]; omega)
    obtain ⟨t1, t2, t3⟩ := Sr.trim_inv i1
    refine ⟨t1, (t3.trans i2).trans em, ?_, i4⟩
    show Goes s.res (Sr.res _) _
    rw [t2]
    rw [er] at i3
    exact i3
theorem Pol.zero {p : Pol} (hm : p.most = 0) (hr : p.res = []) (k : ByteArray) (h : p.Inv) : p.req k = (p, ⟨false, bNil, false⟩) := by
  have hk : p.has k = false := by rw [Pol.has_res h, hr]; rfl
  cases p with
  | lru s =>
    have hm' : s.most = 0 := hm
    have hk' : decide (k ∈ s.ks) = false := hk
    show (Pol.lru (s.req k).1, (s.req k).2) = _
    unfold Lru.req
    rw [if_pos hm', hk']
  | lfu s =>
    have hm' : s.most = 0 := hm
    have hk' : s.has k = false := hk
    show (Pol.lfu (s.req k).1, (s.req k).2) = _
    unfold Lfu.req
    rw [if_pos hm', hk']
  | sr s =>
    have hm' : s.most = 0 := hm
    have hk' : s.has k = false := hk
    show (Pol.sr (s.req k).1, (s.req k).2) = _
    unfold Sr.req
    rw [if_pos hm', hk']
theorem Pol.drop_fit {i m : Nat} {p : Pol} (h : p.Fit i m) : p.drop.Fit i m := by
  cases p with
  | lru s => exact ⟨by have := h.1; show s.ks.dropLast.length ≤ i; rw [List.length_dropLast]; omega, h.2⟩
  | lfu s => exact Lfu.pop_fit h
  | sr s =>
    show s.drop.Fit i m
    have h' : s.Fit i m := h
    unfold Sr.drop
    split
    · exact h'
    · obtain ⟨p1, _, p3⟩ := s.popRow_fit
      exact ⟨Nat.le_trans p1 h'.size, p3.most.trans h'.most, by show s.popRow.target ≤ m; rw [p3.target]; exact h'.target⟩
/-! ### A learner -/
theorem Ln.dropN_goes : ∀ (j : Nat) {s : Ln}, s.Inv → j ≤ s.len → (Ln.dropN j s).1.Inv ∧ Goes s.A.res (Ln.dropN j s).1.A.res (Ln.dropN j s).2 ∧ (Ln.dropN j s).2.length = j ∧ (Ln.dropN j s).1.kind = s.kind
  | 0, s, h, _ => ⟨h, Goes.none _, rfl, rfl⟩
  | j + 1, s, h, hj => by
    obtain ⟨_, q2, q3, q4, q5⟩ := Ln.drop_step h (by omega)
    obtain ⟨i1, i2, i3, i4⟩ := Ln.dropN_goes j q2 (by omega)
    exact ⟨i1, i2.cons q4 q5, by show (_ :: _).length = _; rw [List.length_cons, i3], i4.trans (Ln.drop_like s).kind⟩
theorem Ln.resize_res {s : Ln} (h : s.Inv) (m : Nat) : (s.resize m).1.Inv ∧ (s.resize m).1.most = m ∧ Goes s.A.res (s.resize m).1.A.res (s.resize m).2 ∧ (s.resize m).2.length = s.A.res.length - m ∧ (s.resize m).1.kind = s.kind := by
  obtain ⟨i1, i2, i3, i4⟩ := Ln.dropN_goes (s.len - m) h (Nat.sub_le _ _)
  unfold Ln.resize
  dsimp only
  obtain ⟨r, hr⟩ : ∃ r, Ln.dropN (s.len - m) s = r := ⟨_, rfl⟩
  rw [hr] at i1 i2 i3 i4 ⊢
  obtain ⟨t, l⟩ := r
  dsimp only at i1 i2 i3 i4 ⊢
  have hl := i2.len h.a.nodup i1.a.nodup
  have hls := Ln.len_res s
  have hlt : t.A.res.length ≤ m := by omega
  have hltB : t.B.res.length ≤ m := by rw [i1.lens]; exact hlt
  obtain ⟨a1, a2, _, _⟩ := Pol.resize_res i1.a m
  obtain ⟨b1, b2, _, _⟩ := Pol.resize_res i1.b m
  have ra : (t.A.resize m).1.res = t.A.res := Pol.resize_less (by rw [Pol.len_res]; exact hlt)
  have rb : (t.B.resize m).1.res = t.B.res := Pol.resize_less (by rw [Pol.len_res]; exact hltB)
  obtain ⟨u, hu⟩ : ∃ u : Ln, { t with most := m, A := (t.A.resize m).1, B := (t.B.resize m).1 } = u := ⟨_, rfl⟩
  have hu0 : u.Inv0 := by
    rw [← hu]
    exact ⟨a1, b1, fun c => by dsimp only; rw [ra, rb]; exact i1.same c, a2, b2, by dsimp only; rw [ra]; exact hlt, i1.ga, i1.gb, i1.gg, fun c hc => by dsimp only; rw [ra]; exact i1.gra c hc, fun c hc => by dsimp only; rw [ra]; exact i1.grb c hc, i1.went⟩
  have eA : u.A = (t.A.resize m).1 := by rw [← hu]
  have em : u.most = m := by rw [← hu]
  have ek : u.kind = t.kind := by rw [← hu]
  rw [hu]
  -- the rows of ghosts are cut one behind the other
  have hA0 : (Ln.trimA u).Inv0 ∧ (Ln.trimA u).GA.length ≤ u.most := by
    obtain ⟨v, hv⟩ : ∃ v : Ln, { u with GB := [], went := delAll u.went u.GB } = v := ⟨_, rfl⟩
    refine ⟨?_, by show (u.GA.take u.most).length ≤ u.most; rw [List.length_take]; omega⟩
    refine ⟨hu0.a, hu0.b, hu0.same, hu0.am, hu0.bm, hu0.len, nodup_take hu0.ga _, hu0.gb, fun c hc => hu0.gg c (List.mem_of_mem_take hc), fun c hc => hu0.gra c (List.mem_of_mem_take hc), hu0.grb, fun c => ?_⟩
    show (delAll u.went (u.GA.drop u.most).reverse).has c = true ↔ c ∈ u.GA.take u.most ∨ c ∈ u.GB
    rw [delAll_has, hu0.went, List.mem_reverse]
    obtain ⟨m1, m2⟩ := mem_take_drop hu0.ga u.most c
    constructor
    · rintro ⟨hc | hc, hd⟩
      · rcases m1.1 hc with hc | hc
        · exact .inl hc
        · exact absurd hc hd
      · exact .inr hc
    · rintro (hc | hc)
      · exact ⟨.inl (m1.2 (.inl hc)), m2 hc⟩
      · exact ⟨.inr hc, fun hd => hu0.gg c (m1.2 (.inr hd)) hc⟩
  have hB := Ln.trimB_inv hA0.1 hA0.2
  refine ⟨hB, em, ?_, by rw [i3, hls], ek.trans i4⟩
  show Goes s.A.res u.A.res l
  rw [eA, ra]
  exact i2
theorem Ln.Inv.tape {s : Ln} (h : s.Inv) (t : List (List Nat)) : ({ s with tape := t } : Ln).Inv := ⟨⟨h.a, h.b, h.same, h.am, h.bm, h.len, h.ga, h.gb, h.gg, h.gra, h.grb, h.went⟩, h.gal, h.gbl⟩
end Go.Proofs.YtbbdimlpofjlfaaGreatDoor
