/- Who goes where the draws are all of one kind: no program in sight. -/
import Derived.Test.YteledfiechbhgaaGreatDoorQTwRates
namespace Go.Proofs.YteledfiechbhgaaGreatDoor
open Go Go.RowKit

theorem Ln.room_AB {s : Ln} (h : ¬ s.len < s.most) : s.room.1.A = s.A.remove s.room.2.1 ∧ s.room.1.B = s.B.remove s.room.2.1 := by
  unfold Ln.room
  rw [if_neg h]
  dsimp only
  split <;> exact ⟨rfl, rfl⟩
/-- What a request makes of both experts. -/
inductive Ln.ReqAB (s t : Ln) (k : ByteArray) : Stp → Prop
  | hit (hk : k ∈ s.A.res) (a : t.A = (s.A.req k).1) (b : t.B = (s.B.req k).1) : Ln.ReqAB s t k ⟨true, bNil, false⟩
  | less (hk : k ∉ s.A.res) (hl : s.A.res.length < s.most) (a : t.A = (s.A.adopt k).1) (b : t.B = (s.B.adopt k).1) : Ln.ReqAB s t k ⟨false, bNil, false⟩
  | full (v : ByteArray) (hk : k ∉ s.A.res) (hl : ¬ s.A.res.length < s.most) (hv : v ∈ s.A.res)
      (hp : (decide (tHead s.tape s.lane / 4 < t.w) = true ∧ v = s.A.victim.1) ∨ (decide (tHead s.tape s.lane / 4 < t.w) = false ∧ v = s.B.victim.1))
      (a : t.A = ((s.A.remove v).adopt k).1) (b : t.B = ((s.B.remove v).adopt k).1) : Ln.ReqAB s t k ⟨false, v, true⟩
theorem Ln.req_AB {s : Ln} (h : s.Inv) (hm : s.most ≠ 0) (k : ByteArray) : Ln.ReqAB s (s.req k).1 k (s.req k).2 := by
  unfold Ln.req
  dsimp only
  rw [if_neg hm, h.has]
  by_cases hk : k ∈ s.A.res
  · rw [if_pos (decide_eq_true hk)]
    have hw := Ln.window_same { s with clock := s.clock + 1, hits := s.hits + 1, A := (s.A.req k).1, B := (s.B.req k).1 }
    exact .hit hk hw.A hw.B
  · rw [if_neg (by rw [decide_eq_false hk]; decide)]
    dsimp only
    have h0 := h.clock (s.clock + 1)
    obtain ⟨s0, hs0⟩ : ∃ s0, ({ s with clock := s.clock + 1 } : Ln) = s0 := ⟨_, rfl⟩
    obtain ⟨k1, k2, k3, k4, k5⟩ := Ln.regret_keep ({ s with clock := s.clock + 1 } : Ln) k
    rw [hs0] at h0 k1 k2 k3 k4 k5 ⊢
    have e1 : s0.A = s.A := by rw [← hs0]
    have e2 : s0.most = s.most := by rw [← hs0]
    have e3 : s0.tape = s.tape := by rw [← hs0]
    have e4 : s0.lane = s.lane := by rw [← hs0]
    have e5 : s0.B = s.B := by rw [← hs0]
    obtain ⟨r1, _⟩ := Ln.regret_inv h0 k
    obtain ⟨s1, hs1⟩ : ∃ s1, s0.regret k = s1 := ⟨_, rfl⟩
    rw [hs1] at r1 k1 k2 k3 k4 k5 ⊢
    rw [e1] at k4
    rw [e2] at k3
    rw [e3] at k1
    rw [e4] at k2
    rw [e5] at k5
    by_cases hl : s.A.res.length < s.most
    · have hl' : s1.A.res.length < s1.most := by rw [k3, k4]; exact hl
      rw [Ln.room_less hl']
      have hw := Ln.window_same (s1.adopts k)
      refine .less hk hl (hw.A.trans ?_) (hw.B.trans ?_)
      · show (s1.A.adopt k).1 = _
        rw [k4]
      · show (s1.B.adopt k).1 = _
        rw [k5]
    · have hl' : ¬ s1.A.res.length < s1.most := by rw [k3, k4]; exact hl
      obtain ⟨v, v1, v2, v3, v4⟩ := Ln.room_full r1 (by rw [k3]; exact hm) hl'
      obtain ⟨q1, q2⟩ := Ln.room_AB (s := s1) (by rw [Ln.len_res]; exact hl')
      rw [v1] at q1 q2
      rw [v1]
      dsimp only at q1 q2 ⊢
      have hv := v2.vic
      rw [k4] at hv
      have hw := Ln.window_same (s1.room.1.adopts k)
      have hww : (s1.room.1.adopts k).window.w = s1.w := hw.w.trans v2.w
      have hpick : s1.pick = decide (tHead s.tape s.lane / 4 < (s1.room.1.adopts k).window.w) := by
        rw [hww]
        unfold Ln.pick
        rw [k1, k2]
      refine .full v hk hl hv ?_ (hw.A.trans ?_) (hw.B.trans ?_)
      · rw [← hpick]
        cases hp : s1.pick with
        | true => exact .inl ⟨rfl, by rw [v3 hp, k4]⟩
        | false => exact .inr ⟨rfl, by rw [v4 hp, k5]⟩
      · show (s1.room.1.A.adopt k).1 = _
        rw [q1, k4]
      · show (s1.room.1.B.adopt k).1 = _
        rw [q2, k5]
/-! ### Draws of 0: the one that was not asked for the longest goes -/
structure FolA (m i : Nat) (last : ByteArray → Nat) (s : Ln) : Prop where
  most : s.most = m
  kind : s.kind = 5
  zero : s.lane = 0
  fit : s.Fit (4 * i)
  inv : s.Inv
  tape : s.tape = [[]]
  ks : ∃ ks, s.A = .lru ⟨m, ks⟩ ∧ ks.Pairwise (fun x y => last y ≤ last x)
  low : ∀ c, last c ≤ i
theorem kFront_last {l : List ByteArray} {k : ByteArray} {i : Nat} {f f' : ByteArray → Nat} (h : l.Pairwise (fun x y => f y ≤ f x)) (hi : ∀ c, f c ≤ i) (hf : ∀ c, f' c = if c = k then i + 1 else f c) : (kFront l k).Pairwise (fun x y => f' y ≤ f' x) := by
  unfold kFront
  rw [List.pairwise_cons]
  refine ⟨fun y hy => ?_, ?_⟩
  · rw [hf y, hf k, if_pos rfl, if_neg (kDel_mem.1 hy).2]
    have := hi y
    omega
  · refine List.Pairwise.imp_of_mem ?_ (h.filter _)
    intro a b ha hb hab
    rw [hf a, hf b, if_neg (kDel_mem.1 ha).2, if_neg (kDel_mem.1 hb).2]
    exact hab
theorem last_least {l : List ByteArray} {f : ByteArray → Nat} (h : l.Pairwise (fun x y => f y ≤ f x)) : ∀ c ∈ l, f (kLast l) ≤ f c := by
  intro c hc
  have hne : l ≠ [] := fun e => by rw [e] at hc; cases hc
  have e := kLast_split hne
  rw [← e, List.pairwise_append] at h
  rw [← e, List.mem_append] at hc
  rcases hc with hc | hc
  · exact h.2.2 c hc (kLast l) (by simp)
  · rw [List.mem_singleton] at hc
    rw [hc]
    exact Nat.le_refl _
theorem FolA.new (m : Nat) (f : ByteArray → Nat) (hf : ∀ c, f c = 0) : FolA m 0 f (Ln.new 5 m [[]] 0) :=
  ⟨rfl, rfl, rfl, Ln.new_fit 5 m [[]] 0 (by intro l hl x hx; rw [List.mem_singleton] at hl; subst hl; cases hx), Ln.new_inv 5 m [[]] 0, rfl, ⟨[], rfl, List.Pairwise.nil⟩, fun c => by rw [hf]; exact Nat.le_refl _⟩
theorem FolA.req {m i : Nat} {f : ByteArray → Nat} {s : Ln} (h : FolA m i f s) (hm : 0 < m) (k : ByteArray) (f' : ByteArray → Nat) (hf : ∀ c, f' c = if c = k then i + 1 else f c) :
    FolA m (i + 1) f' (s.req k).1 ∧ ((s.req k).2.out = true → ∀ c ∈ s.A.keys, f (s.req k).2.victim ≤ f c) := by
  have hl := Ln.req_like s k
  have hfit := Ln.req_fit h.fit k
  have htp := Ln.req_tape5 h.inv h.kind k
  have hmz : s.most ≠ 0 := by rw [h.most]; omega
  obtain ⟨h1, _⟩ := Ln.req_inv h.inv hmz k
  have hab := Ln.req_AB h.inv hmz k
  obtain ⟨ks, hA, hp⟩ := h.ks
  obtain ⟨t, ht⟩ : ∃ t, (s.req k).1 = t := ⟨_, rfl⟩
  obtain ⟨st, hst⟩ : ∃ st, (s.req k).2 = st := ⟨_, rfl⟩
  rw [ht] at h1 hl hfit htp hab ⊢
  rw [hst] at hab htp ⊢
  have htape : t.tape = [[]] := by rw [htp, h.tape, h.zero]; split <;> rfl
  have hlow : ∀ c, f' c ≤ i + 1 := fun c => by rw [hf c]; have := h.low c; split <;> omega
  have hw := hfit.w
  have hgoal : ∀ ks', t.A = .lru ⟨m, ks'⟩ → ks'.Pairwise (fun x y => f' y ≤ f' x) → FolA m (i + 1) f' t := fun ks' e hp' => ⟨hl.most.trans h.most, hl.kind.trans h.kind, hl.lane.trans h.zero, hfit, h1, htape, ⟨ks', e, hp'⟩, hlow⟩
  have hres : s.A.res = ks := by rw [hA]; rfl
  have hm0 : m ≠ 0 := by omega
  cases hab with
  | hit hk a b =>
    rw [hres] at hk
    refine ⟨hgoal (kFront ks k) ?_ (kFront_last hp h.low hf), fun e => by cases e⟩
    rw [a, hA]
    show Pol.lru (Lru.req ⟨m, ks⟩ k).1 = _
    unfold Lru.req
    dsimp only
    rw [if_neg hm0, if_pos hk]
  | less hk hlt a b =>
    rw [hres] at hk hlt
    rw [h.most] at hlt
    refine ⟨hgoal (kFront ks k) ?_ (kFront_last hp h.low hf), fun e => by cases e⟩
    rw [a, hA]
    show Pol.lru (Lru.adopt ⟨m, ks⟩ k).1 = _
    unfold Lru.adopt
    dsimp only
    rw [if_neg (fun hc => hc.elim hk (fun hc => absurd hc (by omega)))]
  | full v hk hlt hv hpk a b =>
    rw [hres] at hk hlt hv
    rw [h.most] at hlt
    have hvv : v = kLast ks := by
      rw [h.tape, h.zero] at hpk
      rcases hpk with ⟨_, hv2⟩ | ⟨hc, _⟩
      · rw [hv2, hA]; rfl
      · exfalso
        have hz : tHead [[]] 0 = 0 := rfl
        rw [hz] at hc
        have := of_decide_eq_false hc
        omega
    refine ⟨hgoal (kFront (kDel ks v) k) ?_ (kFront_last (hp.filter _) h.low hf), fun _ c hc => ?_⟩
    · have hnd : ks.Nodup := by have := h.inv.a; rw [hA] at this; exact this
      have hlen := kDel_length hnd hv
      have hle : ks.length ≤ m := by have := h.inv.len; rw [hres, h.most] at this; exact this
      rw [a, hA]
      show Pol.lru (Lru.adopt ⟨m, kDel ks v⟩ k).1 = _
      unfold Lru.adopt
      dsimp only
      rw [if_neg (fun hc => hc.elim (fun hc => hk (kDel_sub hc)) (fun hc => absurd hc (by omega)))]
    · rw [hA] at hc
      rw [hvv]
      exact last_least hp c (List.mem_reverse.1 hc)
/-! ### The greatest draws: the one that was asked for the fewest times goes -/
def hiDraw : Nat := 18446744073709551615
structure FolB (m i j : Nat) (times : ByteArray → Nat) (s : Ln) : Prop where
  most : s.most = m
  kind : s.kind = 5
  zero : s.lane = 0
  fit : s.Fit (4 * i)
  inv : s.Inv
  tape : s.tape = [List.replicate (100 - j) hiDraw]
  le : j ≤ i
  bs : ∃ q, s.B = .lfu q ∧ ∀ e ∈ q.srt, e.one = times e.key
  non : ∀ c, c ∉ s.B.res → times c = 0
theorem hFirst_least {srt : List HE} {f : ByteArray → Nat} (hs : HSorted srt) (ho : ∀ e ∈ srt, e.one = f e.key) : ∀ c ∈ hKeys srt, f (hFirst srt) ≤ f c := by
  intro c hc
  cases srt with
  | nil => cases hc
  | cons x l =>
    rw [HSorted, List.pairwise_cons] at hs
    show f x.key ≤ f c
    obtain ⟨e, he, rfl⟩ := List.mem_map.1 hc
    have hx := ho x (by simp)
    have hee := ho e he
    rcases List.mem_cons.1 he with rfl | he
    · exact Nat.le_refl _
    · have := hs.1 e he
      unfold hLt at this
      omega
theorem lfu_times {q : Lfu} {f : ByteArray → Nat} (ho : ∀ e ∈ q.srt, e.one = f e.key) (hn : ∀ c, c ∉ hKeys q.srt → f c = 0) (k : ByteArray) : q.times k = f k := by
  unfold Lfu.times
  cases hfd : hFind q.srt k with
  | none =>
    have : k ∉ hKeys q.srt := fun hk => by
      obtain ⟨x, hx, hxk⟩ := List.mem_map.1 hk
      unfold hFind at hfd
      rw [List.find?_eq_none] at hfd
      exact hfd x hx (by simpa using hxk)
    rw [hn k this]
    rfl
  | some x =>
    have hx := List.mem_of_find?_eq_some hfd
    have h2 : x.key = k := by
      unfold hFind at hfd
      simpa using List.find?_some hfd
    show x.one = _
    rw [ho x hx, h2]
/-- Asked for once more. -/
theorem lfu_ask {q : Lfu} (h : q.Inv) {f f' : ByteArray → Nat} (ho : ∀ e ∈ q.srt, e.one = f e.key) (hn : ∀ c, c ∉ hKeys q.srt → f c = 0) (k : ByteArray) (hf : ∀ c, f' c = if c = k then f k + 1 else f c) :
    (∀ e ∈ (q.ask k).srt, e.one = f' e.key) ∧ (∀ c, c ∉ hKeys (q.ask k).srt → f' c = 0) := by
  have ht := lfu_times ho hn k
  have hm := (Lfu.ask_inv h k).2
  refine ⟨fun e he => ?_, fun c hc => ?_⟩
  · have he' : e ∈ hSet q.srt q.came k (q.times k + 1) (if q.churn then -(q.now + 1) else q.now + 1) := he
    unfold hSet at he'
    rcases List.mem_cons.1 ((hIns_perm _ _).mem_iff.1 he') with rfl | he2
    · dsimp only
      rw [hf k, if_pos rfl, ht]
      rfl
    · have hk := (List.mem_filter.1 he2)
      have hne : e.key ≠ k := by simpa using hk.2
      rw [hf e.key, if_neg hne]
      exact ho e hk.1
  · rw [hm] at hc
    rw [hf c, if_neg (fun e => hc (.inl e))]
    exact hn c (fun h => hc (.inr h))
theorem FolB.new (m : Nat) (f : ByteArray → Nat) (hf : ∀ c, f c = 0) : FolB m 0 0 f (Ln.new 5 m [List.replicate 100 hiDraw] 0) :=
  ⟨rfl, rfl, rfl, Ln.new_fit 5 m [List.replicate 100 hiDraw] 0 (by
    intro l hl x hx
    rw [List.mem_singleton] at hl
    subst hl
    rw [(List.mem_replicate.1 hx).2]
    unfold hiDraw
    omega), Ln.new_inv 5 m [List.replicate 100 hiDraw] 0, rfl, Nat.le_refl _, ⟨_, rfl, fun e he => by cases he⟩, fun c _ => hf c⟩
theorem FolB.req {m i j : Nat} {f : ByteArray → Nat} {s : Ln} (h : FolB m i j f s) (hm : 0 < m) (hi : i < 100) (k : ByteArray) :
    ((s.req k).2.out = false → ∀ f' : ByteArray → Nat, (∀ c, f' c = if c = k then f k + 1 else f c) → FolB m (i + 1) j f' (s.req k).1) ∧
    ((s.req k).2.out = true → (∀ f' : ByteArray → Nat, (∀ c, f' c = if c = k then f k + 1 else if c = (s.req k).2.victim then 0 else f c) → FolB m (i + 1) (j + 1) f' (s.req k).1) ∧ (s.req k).2.victim ≠ k ∧ ∀ c ∈ s.A.keys, f (s.req k).2.victim ≤ f c) := by
  have hl := Ln.req_like s k
  have hfit := Ln.req_fit h.fit k
  have htp := Ln.req_tape5 h.inv h.kind k
  have hmz : s.most ≠ 0 := by rw [h.most]; omega
  obtain ⟨h1, _⟩ := Ln.req_inv h.inv hmz k
  have hab := Ln.req_AB h.inv hmz k
  obtain ⟨q, hB, ho⟩ := h.bs
  have hn := h.non
  have hqi : q.Inv := by have := h.inv.b; rw [hB] at this; exact this
  have hbm : q.most = m := by have := h.inv.bm; rw [hB, h.most] at this; exact this
  have hres : s.B.res = hKeys q.srt := by rw [hB]; rfl
  have hsame := h.inv.same
  have hlens := h.inv.lens
  rw [hres] at hn hsame hlens
  obtain ⟨t, ht⟩ : ∃ t, (s.req k).1 = t := ⟨_, rfl⟩
  obtain ⟨st, hst⟩ : ∃ st, (s.req k).2 = st := ⟨_, rfl⟩
  rw [ht] at h1 hl hfit htp hab ⊢
  rw [hst] at hab htp ⊢
  have hw := hfit.w
  have hle := h.le
  rw [h.tape, h.zero] at htp
  have hgoal : ∀ {j' : Nat} {f' : ByteArray → Nat} (q' : Lfu), t.tape = [List.replicate (100 - j') hiDraw] → j' ≤ i + 1 → t.B = .lfu q' → (∀ e ∈ q'.srt, e.one = f' e.key) → (∀ c, c ∉ hKeys q'.srt → f' c = 0) → FolB m (i + 1) j' f' t := fun q' e1 e2 e3 e4 e5 =>
    ⟨hl.most.trans h.most, hl.kind.trans h.kind, hl.lane.trans h.zero, hfit, h1, e1, e2, ⟨q', e3, e4⟩, fun c hc => e5 c (by rw [e3] at hc; exact hc)⟩
  cases hab with
  | hit hk a b =>
    refine ⟨fun _ f' hf => ?_, fun e => by cases e⟩
    obtain ⟨a1, a2⟩ := lfu_ask hqi ho hn k hf
    refine hgoal (q.ask k) htp (by omega) ?_ a1 a2
    rw [b, hB]
    show Pol.lfu (q.req k).1 = _
    unfold Lfu.req
    rw [if_neg (by rw [hbm]; omega), if_pos (by rw [Lfu.has_res hqi]; exact decide_eq_true ((hsame k).1 hk))]
  | less hk hlt a b =>
    refine ⟨fun _ f' hf => ?_, fun e => by cases e⟩
    obtain ⟨a1, a2⟩ := lfu_ask hqi ho hn k hf
    refine hgoal (q.ask k) htp (by omega) ?_ a1 a2
    rw [h.most] at hlt
    rw [hKeys_len] at hlens
    rw [b, hB]
    show Pol.lfu (q.adopt k).1 = _
    unfold Lfu.adopt
    rw [if_neg (fun hc => hc.elim (fun h1 => by rw [Lfu.has_res hqi, decide_eq_true_iff] at h1; exact hk ((hsame k).2 h1)) (fun hc => absurd hc (by rw [hbm]; omega)))]
  | full v hk hlt hv hpk a b =>
    refine ⟨(fun e => by cases e), fun _ => ⟨fun f' hf => ?_, fun e => hk (e ▸ hv), fun c hc => ?_⟩⟩
    · obtain ⟨r1, r2⟩ := Lfu.remove_inv hqi v
      have hvk : v ≠ k := fun e => hk (e ▸ hv)
      have o2 : ∀ e ∈ (q.remove v).srt, e.one = ((if e.key = v then 0 else f e.key : Nat) : Int) := fun e he => by
        have he2 := List.mem_filter.1 (show e ∈ hDel q.srt v from he)
        have hne : e.key ≠ v := by simpa using he2.2
        rw [if_neg hne]
        exact ho e he2.1
      have n2 : ∀ c, c ∉ hKeys (q.remove v).srt → (if c = v then 0 else f c) = 0 := fun c hc => by
        by_cases hcv : c = v
        · rw [if_pos hcv]
        · rw [if_neg hcv]
          exact hn c fun hh => hc ((r2 c).2 ⟨hh, hcv⟩)
      obtain ⟨a1, a2⟩ := lfu_ask (f := fun c => if c = v then 0 else f c) (f' := f') r1 o2 n2 k (fun c => by
        rw [hf c]
        dsimp only
        rw [if_neg (show ¬ k = v from fun e => hvk e.symm)])
      have hq2 : (q.remove v).most = m := hbm
      have hlen2 : (q.remove v).srt.length < m := by
        have h3 := (same_len r1.nd (kDel_nodup v hqi.nd) (fun c => (r2 c).trans kDel_mem.symm))
        have h4 := kDel_length hqi.nd ((hsame v).1 hv)
        have h5 := h.inv.len
        rw [h.most, ← hlens] at h5
        rw [← hKeys_len, h3]
        omega
      refine hgoal ((q.remove v).ask k) ?_ (by omega) ?_ a1 a2
      · rw [htp]
        show [(List.replicate (100 - j) hiDraw).tail] = _
        rw [List.tail_replicate]
        rfl
      · rw [b, hB]
        show Pol.lfu ((q.remove v).adopt k).1 = _
        unfold Lfu.adopt
        rw [if_neg (fun hc => hc.elim (fun h1 => by rw [Lfu.has_res r1, decide_eq_true_iff] at h1; exact hk ((hsame k).2 ((r2 k).1 h1).1)) (fun hc => absurd hc (by rw [hq2]; omega)))]
    · have hvv : v = hFirst q.srt := by
        rw [h.tape, h.zero] at hpk
        have hz : tHead [List.replicate (100 - j) hiDraw] 0 = hiDraw := by
          obtain ⟨n, hn⟩ : ∃ n, 100 - j = n + 1 := ⟨99 - j, by omega⟩
          rw [hn]
          rfl
        rw [hz] at hpk
        rcases hpk with ⟨hc, _⟩ | ⟨_, hv2⟩
        · exfalso
          have := of_decide_eq_true hc
          unfold hiDraw at this
          omega
        · rw [hv2, hB]; rfl
      show f v ≤ f c
      rw [hvv]
      refine hFirst_least hqi.sorted ho c ((hsame c).1 ?_)
      have hc2 : ∀ p : Pol, c ∈ p.keys → c ∈ p.res := fun p => by
        cases p with
        | lru s => exact List.mem_reverse.1
        | lfu s => exact id
        | sr s =>
          show c ∈ s.n.reverse ++ s.a.reverse → c ∈ s.n ++ s.a
          rw [List.mem_append, List.mem_append, List.mem_reverse, List.mem_reverse]
          exact id
      exact hc2 s.A hc
end Go.Proofs.YteledfiechbhgaaGreatDoor
