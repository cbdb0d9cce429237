/- What a learner does, with no program in sight. -/
import Derived.Test.YtbbdimlpofjlfaaGreatDoorQLsMath
import Derived.Test.YtbbdimlpofjlfaaGreatDoorQFixShare
import Derived.Test.YtbbdimlpofjlfaaGreatDoorQSr1
import Derived.KernelRfl
namespace Go.Proofs.YtbbdimlpofjlfaaGreatDoor
open Go Go.RowKit

/-! ### One of the policies -/
inductive Pol where
  | lru (s : Lru)
  | lfu (s : Lfu)
  | sr (s : Sr)
def Pol.has : Pol → ByteArray → Bool
  | .lru s, k => decide (k ∈ s.ks)
  | .lfu s, k => s.has k
  | .sr s, k => s.has k
def Pol.len : Pol → Nat
  | .lru s => s.ks.length
  | .lfu s => s.srt.length
  | .sr s => s.len
def Pol.req : Pol → ByteArray → Pol × Stp
  | .lru s, k => (.lru (s.req k).1, (s.req k).2)
  | .lfu s, k => (.lfu (s.req k).1, (s.req k).2)
  | .sr s, k => (.sr (s.req k).1, (s.req k).2)
def Pol.remove : Pol → ByteArray → Pol
  | .lru s, k => .lru ⟨s.most, kDel s.ks k⟩
  | .lfu s, k => .lfu (s.remove k)
  | .sr s, k => .sr (s.remove k)
def Pol.adopt : Pol → ByteArray → Pol × Bool
  | .lru s, k => (.lru (s.adopt k).1, (s.adopt k).2)
  | .lfu s, k => (.lfu (s.adopt k).1, (s.adopt k).2)
  | .sr s, k => (.sr (s.adopt k).1, (s.adopt k).2)
def Pol.victim : Pol → ByteArray × Bool
  | .lru s => (kLast s.ks, !s.ks.isEmpty)
  | .lfu s => (hFirst s.srt, !s.srt.isEmpty)
  | .sr s => (kLast s.row, !s.row.isEmpty)
def Pol.resize : Pol → Nat → Pol × List ByteArray
  | .lru s, n => (.lru (s.resize n).1, (s.resize n).2)
  | .lfu s, n => (.lfu (s.resize n).1, (s.resize n).2)
  | .sr s, n => (.sr (s.resize n).1, (s.resize n).2)
def Pol.keys : Pol → List ByteArray
  | .lru s => s.ks.reverse
  | .lfu s => hKeys s.srt
  | .sr s => s.keys

/-! ### Draws -/
def tHead (t : List (List Nat)) (lane : Nat) : Nat := ((t[lane]?.getD []).head?).getD 0
def tNext (t : List (List Nat)) (lane : Nat) : List (List Nat) := t.modify lane List.tail

/-! ### The learner -/
def fOne : Nat := 4611686018427387904
def fpart (a b : Int) : Nat := fwhole a b
structure Ln where
  kind : Int
  most : Nat
  tape : List (List Nat)
  lane : Nat
  A : Pol
  B : Pol
  GA : List ByteArray
  GB : List ByteArray
  went : TMap Int
  clock : Int
  w : Nat
  rate : Nat
  asked : Int
  hits : Int
  last : Int
  still : Int
  first : Bool
  down : Bool
def Ln.has (s : Ln) (k : ByteArray) : Bool := s.A.has k
def Ln.len (s : Ln) : Nat := s.A.len
def Ln.forget (s : Ln) (k : ByteArray) : Ln := { s with GA := kDel s.GA k, GB := kDel s.GB k, went := s.went.del k }
def Ln.regret (s : Ln) (k : ByteArray) : Ln :=
  match s.went.get k with
  | none => s
  | some t =>
    let age := fpow (fpart s.most (s.most + 1)) (s.clock - t)
    let fall := ffall (fmul s.rate age)
    let a := if k ∈ s.GA then fmul s.w fall else s.w
    let b := if k ∈ s.GA then fOne - s.w else fmul (fOne - s.w) fall
    Ln.forget { s with w := fshare a b (fpart 1 100) } k
def Ln.gone (s : Ln) (k : ByteArray) : Ln := { s with A := s.A.remove k, B := s.B.remove k }
def Ln.trimA (s : Ln) : Ln := { s with GA := s.GA.take s.most, went := delAll s.went (s.GA.drop s.most).reverse }
def Ln.trimB (s : Ln) : Ln := { s with GB := s.GB.take s.most, went := delAll s.went (s.GB.drop s.most).reverse }
def Ln.pick (s : Ln) : Bool := decide (tHead s.tape s.lane / 4 < s.w)
def Ln.room (s : Ln) : Ln × ByteArray × Bool :=
  if s.len < s.most then (s, bNil, false)
  else
    let t := tNext s.tape s.lane
    if s.pick then
      let v := s.A.victim
      let s1 := Ln.gone { s with tape := t } v.1
      (Ln.trimA { s1 with GA := kFront s1.GA v.1, went := s1.went.put v.1 s1.clock }, v)
    else
      let v := s.B.victim
      let s1 := Ln.gone { s with tape := t } v.1
      (Ln.trimB { s1 with GB := kFront s1.GB v.1, went := s1.went.put v.1 s1.clock }, v)
def Ln.adopts (s : Ln) (k : ByteArray) : Ln := { s with A := (s.A.adopt k).1, B := (s.B.adopt k).1 }
def Ln.window (s : Ln) : Ln :=
  let s := { s with asked := s.asked + 1 }
  if s.kind ≠ 6 ∨ s.asked < s.most then s
  else
    let least := fpart 1 1000
    let s1 : Ln := { s with asked := 0, hits := 0 }
    let s2 : Ln :=
      if s.first then s1
      else if s.hits = s.last then
        if s.still + 1 = 10 then { s1 with still := 0, rate := max least (tHead s.tape s.lane / 4), tape := tNext s.tape s.lane }
        else { s1 with still := s.still + 1 }
      else
        let down := s.down != decide (s.hits < s.last)
        let r := if down then s.rate - s.rate / 4 else fadd s.rate (s.rate / 4)
        { s1 with still := 0, down := down, rate := min (max r least) fOne }
    { s2 with first := false, last := s.hits }
def Ln.req (s : Ln) (k : ByteArray) : Ln × Stp :=
  let s0 := { s with clock := s.clock + 1 }
  if s.most = 0 then (s0, ⟨s.has k, bNil, false⟩)
  else if s.has k then
    (Ln.window { s0 with hits := s.hits + 1, A := (s.A.req k).1, B := (s.B.req k).1 }, ⟨true, bNil, false⟩)
  else
    let s1 := s0.regret k
    let r := s1.room
    ((r.1.adopts k).window, ⟨false, r.2.1, r.2.2⟩)
def Ln.remove (s : Ln) (k : ByteArray) : Ln := (s.gone k).forget k
def Ln.adopt (s : Ln) (k : ByteArray) : Ln × Bool := if s.has k = true ∨ s.most ≤ s.len then (s, false) else ((s.forget k).adopts k, true)
def Ln.victim (s : Ln) : ByteArray × Bool := if fOne / 2 ≤ s.w then s.A.victim else s.B.victim
def Ln.drop (s : Ln) : Ln := if s.victim.2 then s.gone s.victim.1 else s
def Ln.dropN : Nat → Ln → Ln × List ByteArray
  | 0, s => (s, [])
  | i + 1, s => ((Ln.dropN i s.drop).1, s.victim.1 :: (Ln.dropN i s.drop).2)
def Ln.resize (s : Ln) (most : Nat) : Ln × List ByteArray :=
  let r := Ln.dropN (s.len - most) s
  (Ln.trimB (Ln.trimA { r.1 with most := most, A := (r.1.A.resize most).1, B := (r.1.B.resize most).1 }), r.2)
def Ln.ghosts (s : Ln) : List ByteArray := s.GA ++ s.GB
end Go.Proofs.YtbbdimlpofjlfaaGreatDoor
/- How large what a policy holds may be, with no program in sight. -/
namespace Go.Proofs.YtbbdimlpofjlfaaGreatDoor
open Go Go.RowKit

theorem kDel_len (l : List ByteArray) (k : ByteArray) : (kDel l k).length ≤ l.length := List.length_filter_le _ _
theorem hIns_len (x : HE) (l : List HE) : (hIns x l).length = l.length + 1 := (hIns_perm x l).length_eq
theorem hDel_len (l : List HE) (k : ByteArray) : (hDel l k).length ≤ l.length := List.length_filter_le _ _
theorem hSet_len (srt : List HE) (came : Int) (k : ByteArray) (one two : Int) : (hSet srt came k one two).length ≤ srt.length + 1 := by
  unfold hSet
  rw [hIns_len]
  have := hDel_len srt k
  omega
/-! ### srlru -/
def Sr.size (s : Sr) : Nat := s.n.length + s.a.length + s.g.length
/-- The set-up is as it was. -/
structure Sr.Like (s t : Sr) : Prop where
  most : t.most = s.most
  target : t.target = s.target
theorem Sr.Like.trans {s t u : Sr} (h : Sr.Like s t) (k : Sr.Like t u) : Sr.Like s u := ⟨k.most.trans h.most, k.target.trans h.target⟩
theorem Sr.demote_fit : ∀ (l : List ByteArray) (s : Sr), Sr.Like s (s.demote l) ∧ (s.demote l).a = s.a ∧ (s.demote l).g = s.g
  | [], _ => ⟨⟨rfl, rfl⟩, rfl, rfl⟩
  | k :: l, s => by
    obtain ⟨h1, h2, h3⟩ := Sr.demote_fit l (s.demote1 k)
    exact ⟨⟨h1.most, h1.target⟩, h2, h3⟩
theorem Sr.again_fit (s : Sr) (k : ByteArray) : (s.again k).size ≤ s.size + 1 ∧ Sr.Like s (s.again k) := by
  unfold Sr.again Sr.size
  dsimp only
  obtain ⟨t, ht⟩ : ∃ t, max s.target 1 = t := ⟨_, rfl⟩
  rw [ht]
  obtain ⟨s1, hs1⟩ : ∃ s1, ({ s with a := (kFront s.a k).take t, marks := s.marks.put k (true, false) } : Sr) = s1 := ⟨_, rfl⟩
  rw [hs1]
  have h1 := Sr.demote_n ((kFront s.a k).drop t).reverse s1
  obtain ⟨h2, h3, h4⟩ := Sr.demote_fit ((kFront s.a k).drop t).reverse s1
  have h5 := kFront_len s.a k
  rw [h3, h4]
  subst hs1
  refine ⟨?_, h2.most, h2.target⟩
  dsimp only at *
  rw [List.length_reverse, List.length_drop] at h1
  rw [List.length_take]
  omega
theorem Sr.trim_fit (s : Sr) : s.trim.size ≤ s.size ∧ Sr.Like s s.trim := by
  refine ⟨?_, rfl, rfl⟩
  unfold Sr.trim Sr.size
  dsimp only
  rw [List.length_take]
  omega
theorem Sr.popRow_fit (s : Sr) : s.popRow.size ≤ s.size ∧ (s.row ≠ [] → s.popRow.size + 1 = s.size) ∧ Sr.Like s s.popRow := by
  unfold Sr.popRow Sr.row Sr.size
  split
  · dsimp only
    rw [List.length_dropLast]
    exact ⟨by omega, fun _ => by omega, rfl, rfl⟩
  · dsimp only
    rw [List.length_dropLast]
    exact ⟨by omega, fun h => by have := List.length_pos_iff.2 h; omega, rfl, rfl⟩
theorem Sr.evict_fit (s : Sr) : s.evict.size ≤ s.size ∧ Sr.Like s s.evict := by
  unfold Sr.evict
  split
  · exact ⟨Nat.le_refl _, rfl, rfl⟩
  · rename_i h
    obtain ⟨_, h2, h3⟩ := s.popRow_fit
    have h2 := h2 h
    obtain ⟨h4, h5⟩ := Sr.trim_fit { s.popRow with g := kFront s.g (kLast s.row) }
    refine ⟨Nat.le_trans h4 ?_, h5.most.trans h3.most, h5.target.trans h3.target⟩
    have h6 := kFront_len s.g (kLast s.row)
    have h7 : s.popRow.g = s.g := by unfold Sr.popRow; split <;> rfl
    unfold Sr.size at *
    dsimp only
    rw [h7] at h2
    omega
theorem Sr.evictN_fit : ∀ (i : Nat) (s : Sr), (Sr.evictN i s).1.size ≤ s.size ∧ Sr.Like s (Sr.evictN i s).1
  | 0, _ => ⟨Nat.le_refl _, rfl, rfl⟩
  | i + 1, s => by
    obtain ⟨h1, h2⟩ := Sr.evictN_fit i s.evict
    obtain ⟨h3, h4⟩ := s.evict_fit
    exact ⟨Nat.le_trans h1 h3, h4.trans h2⟩
structure Sr.Fit (i m : Nat) (s : Sr) : Prop where
  size : s.size ≤ i
  most : s.most = m
  target : s.target ≤ m
theorem Sr.Fit.mono {i j m : Nat} {s : Sr} (h : s.Fit i m) (hij : i ≤ j) : s.Fit j m := ⟨Nat.le_trans h.size hij, h.most, h.target⟩
theorem Sr.Fit.like {i j m : Nat} {s t : Sr} (h : s.Fit i m) (hl : Sr.Like s t) (ht : t.size ≤ j) : t.Fit j m := ⟨ht, hl.most.trans h.most, by rw [hl.target]; exact h.target⟩
theorem Sr.size_n (s : Sr) (n : List ByteArray) (h : n.length ≤ s.n.length) (t : Nat) : ({ s with target := t, n := n } : Sr).size ≤ s.size := by
  unfold Sr.size
  dsimp only
  omega
theorem Sr.req_fit {i m : Nat} {s : Sr} (h : s.Fit i m) (k : ByteArray) : (s.req k).1.Fit (i + 1) m := by
  have hs := h.size
  unfold Sr.req
  split
  · exact h.mono (by omega)
  split
  · refine ⟨?_, h.most, h.target⟩
    have := kFront_len s.a k
    unfold Sr.size at *
    dsimp only
    omega
  split
  · obtain ⟨t, ht⟩ : ∃ t, (if ((s.marks.get k).getD (false, false)).2 then min (s.target + 1) s.most else s.target) = t := ⟨_, rfl⟩
    rw [ht]
    have htm : t ≤ m := by rw [← ht]; have := h.target; have := h.most; split <;> omega
    have h1 : ({ s with target := t, n := kDel s.n k } : Sr).Fit i m := ⟨Nat.le_trans (s.size_n _ (kDel_len _ _) t) hs, h.most, htm⟩
    obtain ⟨h2, h3⟩ := Sr.again_fit { s with target := t, n := kDel s.n k } k
    exact h1.like h3 (Nat.le_trans h2 (by have := h1.size; omega))
  · dsimp only
    obtain ⟨t, ht⟩ : ∃ t, (if s.marks.has k = true ∧ ((s.marks.get k).getD (false, false)).1 = false ∧ 1 < s.target then s.target - 1 else s.target) = t := ⟨_, rfl⟩
    rw [ht]
    have htm : t ≤ m := by rw [← ht]; have := h.target; split <;> omega
    obtain ⟨full, hfull⟩ : ∃ f, decide (s.most ≤ ({ s with target := t, g := kDel s.g k } : Sr).len) = f := ⟨_, rfl⟩
    rw [hfull]
    clear hfull
    obtain ⟨s1, hs1⟩ : ∃ s1, ({ s with target := t, g := kDel s.g k } : Sr) = s1 := ⟨_, rfl⟩
    rw [hs1]
    have h1 : s1.Fit i m := by
      rw [← hs1]
      refine ⟨?_, h.most, htm⟩
      have := kDel_len s.g k
      unfold Sr.size at *
      dsimp only
      omega
    have h2 : (if full = true then s1.evict else s1).Fit i m := by
      split
      · obtain ⟨h3, h4⟩ := s1.evict_fit
        exact h1.like h4 (Nat.le_trans h3 h1.size)
      · exact h1
    obtain ⟨s2, hs2⟩ : ∃ s2, (if full = true then s1.evict else s1) = s2 := ⟨_, rfl⟩
    rw [hs2] at h2 ⊢
    split
    · obtain ⟨h3, h4⟩ := s2.again_fit k
      exact h2.like h4 (Nat.le_trans h3 (by have := h2.size; omega))
    · refine ⟨?_, h2.most, h2.target⟩
      have h3 := kFront_len s2.n k
      have h4 := h2.size
      unfold Sr.size at *
      dsimp only
      omega
theorem Sr.adopt_fit {i m : Nat} {s : Sr} (h : s.Fit i m) (k : ByteArray) : (s.adopt k).1.Fit (i + 1) m := by
  unfold Sr.adopt
  split
  · exact h.mono (by omega)
  · refine ⟨?_, h.most, h.target⟩
    have h1 := kFront_len s.n k
    have h2 := kDel_len s.g k
    have h3 := h.size
    unfold Sr.size at *
    dsimp only
    omega
theorem Sr.remove_fit {i m : Nat} {s : Sr} (h : s.Fit i m) (k : ByteArray) : (s.remove k).Fit i m := by
  refine ⟨?_, h.most, h.target⟩
  have h1 := kDel_len s.n k
  have h2 := kDel_len s.a k
  have h3 := kDel_len s.g k
  have h4 := h.size
  have h5 : (s.remove k).a.length ≤ s.a.length := by
    unfold Sr.remove
    dsimp only
    split <;> omega
  unfold Sr.size at *
  show (kDel s.n k).length + (s.remove k).a.length + (kDel s.g k).length ≤ i
  omega
theorem Sr.resize_fit {i m : Nat} {s : Sr} (h : s.Fit i m) (m' : Nat) : (s.resize m').1.Fit i m' := by
  unfold Sr.resize
  dsimp only
  obtain ⟨s1, hs1⟩ : ∃ s1, ({ s with most := m', target := min s.target m' } : Sr) = s1 := ⟨_, rfl⟩
  rw [hs1]
  have h1 : s1.Fit i m' := by rw [← hs1]; exact ⟨h.size, rfl, Nat.min_le_right _ _⟩
  obtain ⟨h2, h3⟩ := Sr.evictN_fit (s1.len - m') s1
  obtain ⟨h4, h5⟩ := Sr.trim_fit (Sr.evictN (s1.len - m') s1).1
  exact h1.like (h3.trans h5) (Nat.le_trans h4 (Nat.le_trans h2 h1.size))
/-! ### One of the policies -/
/-- So many keys at most; so many may be. -/
def Pol.Fit (i m : Nat) : Pol → Prop
  | .lru s => s.ks.length ≤ i ∧ s.most = m
  | .lfu s => s.srt.length ≤ i ∧ s.now ≤ i ∧ s.most = m
  | .sr s => s.Fit i m
theorem Pol.Fit.mono {i j m : Nat} {p : Pol} (h : p.Fit i m) (hij : i ≤ j) : p.Fit j m := by
  cases p with
  | lru s => exact ⟨Nat.le_trans h.1 hij, h.2⟩
  | lfu s => exact ⟨Nat.le_trans h.1 hij, by have := h.2.1; omega, h.2.2⟩
  | sr s => exact Sr.Fit.mono h hij
theorem Lfu.ask_fit {i m : Nat} {s : Lfu} (h : Pol.Fit i m (.lfu s)) (k : ByteArray) : Pol.Fit (i + 1) m (.lfu (s.ask k)) := by
  obtain ⟨h1, h2, h3⟩ := h
  refine ⟨?_, ?_, h3⟩
  · have := hSet_len s.srt s.came k (s.times k + 1) (if s.churn then -(s.now + 1) else s.now + 1)
    show (hSet s.srt s.came k (s.times k + 1) (if s.churn then -(s.now + 1) else s.now + 1)).length ≤ _
    omega
  · show s.now + 1 ≤ _
    omega
theorem Lfu.pop_fit {i m : Nat} {s : Lfu} (h : Pol.Fit i m (.lfu s)) : Pol.Fit i m (.lfu s.pop) := by
  obtain ⟨h1, h2, h3⟩ := h
  refine ⟨?_, h2, h3⟩
  show s.srt.tail.length ≤ _
  rw [List.length_tail]
  omega
theorem Pol.req_fit {i m : Nat} {p : Pol} (h : p.Fit i m) (k : ByteArray) : (p.req k).1.Fit (i + 1) m := by
  cases p with
  | lru s =>
    obtain ⟨h1, h2⟩ := h
    show (s.req k).1.ks.length ≤ i + 1 ∧ (s.req k).1.most = m
    have h3 := kFront_len s.ks k
    have h4 := kFront_len s.ks.dropLast k
    rw [List.length_dropLast] at h4
    unfold Lru.req
    (repeat' split) <;> exact ⟨by dsimp only; omega, h2⟩
  | lfu s =>
    show Pol.Fit (i + 1) m (.lfu (s.req k).1)
    unfold Lfu.req
    split
    · exact Pol.Fit.mono h (by omega)
    split
    · exact Lfu.ask_fit h k
    split
    · exact Lfu.ask_fit (Lfu.pop_fit h) k
    · exact Lfu.ask_fit h k
  | sr s => exact Sr.req_fit h k
theorem Pol.adopt_fit {i m : Nat} {p : Pol} (h : p.Fit i m) (k : ByteArray) : (p.adopt k).1.Fit (i + 1) m := by
  cases p with
  | lru s =>
    obtain ⟨h1, h2⟩ := h
    show (s.adopt k).1.ks.length ≤ i + 1 ∧ (s.adopt k).1.most = m
    have h3 := kFront_len s.ks k
    unfold Lru.adopt
    (repeat' split) <;> exact ⟨by dsimp only; omega, h2⟩
  | lfu s =>
    show Pol.Fit (i + 1) m (.lfu (s.adopt k).1)
    unfold Lfu.adopt
    split
    · exact Pol.Fit.mono h (by omega)
    · exact Lfu.ask_fit h k
  | sr s => exact Sr.adopt_fit h k
theorem Pol.remove_fit {i m : Nat} {p : Pol} (h : p.Fit i m) (k : ByteArray) : (p.remove k).Fit i m := by
  cases p with
  | lru s => exact ⟨Nat.le_trans (kDel_len _ _) h.1, h.2⟩
  | lfu s => exact ⟨Nat.le_trans (hDel_len _ _) h.1, h.2.1, h.2.2⟩
  | sr s => exact Sr.remove_fit h k
theorem Pol.resize_fit {i m : Nat} {p : Pol} (h : p.Fit i m) (m' : Nat) : (p.resize m').1.Fit i m' := by
  cases p with
  | lru s => exact ⟨Nat.le_trans (List.length_take_le' _ _) h.1, rfl⟩
  | lfu s =>
    refine ⟨?_, h.2.1, rfl⟩
    show (s.srt.drop _).length ≤ i
    rw [List.length_drop]
    have := h.1
    omega
  | sr s => exact Sr.resize_fit h m'
theorem Pol.len_fit {i m : Nat} {p : Pol} (h : p.Fit i m) : p.len ≤ i := by
  cases p with
  | lru s => exact h.1
  | lfu s => exact h.1
  | sr s => have := Sr.Fit.size h; unfold Sr.size at this; show s.n.length + s.a.length ≤ i; omega
end Go.Proofs.YtbbdimlpofjlfaaGreatDoor
/- How large what a learner holds may be, with no program in sight. -/
namespace Go.Proofs.YtbbdimlpofjlfaaGreatDoor
open Go Go.RowKit

/-- 1 / 100 and 1 / 1000 of One. -/
theorem fpart_100 : fpart 1 100 = 46116860184273879 := by decide +kernel
theorem fpart_1000 : fpart 1 1000 = 4611686018427387 := by decide +kernel
theorem fpart_45 : fpart 45 100 = 2075258708292324556 := by decide +kernel
/-- What a learner is held in, after so many calls. -/
structure Ln.Fit (i : Nat) (s : Ln) : Prop where
  a : s.A.Fit i s.most
  b : s.B.Fit i s.most
  ga : s.GA.length ≤ i
  gb : s.GB.length ≤ i
  clock : 0 ≤ s.clock ∧ s.clock ≤ i
  went : ∀ k t, s.went.get k = some t → 0 ≤ t ∧ t ≤ s.clock
  w : 46116860184273879 ≤ s.w ∧ s.w ≤ 4611686018427387904 - 46116860184273879
  rate : 4611686018427387 ≤ s.rate ∧ s.rate ≤ 4611686018427387904
  asked : 0 ≤ s.asked ∧ s.asked ≤ i
  hits : 0 ≤ s.hits ∧ s.hits ≤ i
  last : 0 ≤ s.last ∧ s.last ≤ i
  still : 0 ≤ s.still ∧ s.still ≤ i
  tape : ∀ l ∈ s.tape, ∀ x ∈ l, x < 18446744073709551616
  al : ∀ q, s.A ≠ .lfu q
  bl : ∀ q, s.B ≠ .sr q
theorem Pol.sort (P : Pol) (k : ByteArray) (m : Nat) : ((∀ q, P ≠ .lfu q) → (∀ q, (P.req k).1 ≠ .lfu q) ∧ (∀ q, (P.adopt k).1 ≠ .lfu q) ∧ (∀ q, P.remove k ≠ .lfu q) ∧ (∀ q, (P.resize m).1 ≠ .lfu q)) ∧
    ((∀ q, P ≠ .sr q) → (∀ q, (P.req k).1 ≠ .sr q) ∧ (∀ q, (P.adopt k).1 ≠ .sr q) ∧ (∀ q, P.remove k ≠ .sr q) ∧ (∀ q, (P.resize m).1 ≠ .sr q)) := by
  cases P with
  | lru s => exact ⟨fun _ => ⟨(fun _ h => by cases h), (fun _ h => by cases h), (fun _ h => by cases h), (fun _ h => by cases h)⟩, fun _ => ⟨(fun _ h => by cases h), (fun _ h => by cases h), (fun _ h => by cases h), (fun _ h => by cases h)⟩⟩
  | lfu s => exact ⟨fun h => absurd rfl (h s), fun _ => ⟨(fun _ h => by cases h), (fun _ h => by cases h), (fun _ h => by cases h), (fun _ h => by cases h)⟩⟩
  | sr s => exact ⟨fun _ => ⟨(fun _ h => by cases h), (fun _ h => by cases h), (fun _ h => by cases h), (fun _ h => by cases h)⟩, fun h => absurd rfl (h s)⟩
theorem tHead_lt {t : List (List Nat)} (h : ∀ l ∈ t, ∀ x ∈ l, x < 18446744073709551616) (lane : Nat) : tHead t lane < 18446744073709551616 := by
  unfold tHead
  cases e : t[lane]? with
  | none => simp
  | some l =>
    cases l with
    | nil => simp
    | cons x l => exact h _ (List.mem_of_getElem? e) x (by simp)
theorem tNext_lt {t : List (List Nat)} (h : ∀ l ∈ t, ∀ x ∈ l, x < 18446744073709551616) (lane : Nat) : ∀ l ∈ tNext t lane, ∀ x ∈ l, x < 18446744073709551616 := by
  intro l hl x hx
  obtain ⟨j, hj⟩ := List.mem_iff_getElem?.1 hl
  unfold tNext at hj
  rw [List.getElem?_modify] at hj
  cases e : t[j]? with
  | none => rw [e] at hj; simp at hj
  | some m =>
    rw [e] at hj
    have hm := List.mem_of_getElem? e
    simp at hj
    subst hj
    split at hx
    · exact h m hm x (List.mem_of_mem_tail hx)
    · exact h m hm x hx
theorem Ln.Fit.mono {i j : Nat} {s : Ln} (h : s.Fit i) (hij : i ≤ j) : s.Fit j :=
  ⟨h.a.mono hij, h.b.mono hij, Nat.le_trans h.ga hij, Nat.le_trans h.gb hij, by have := h.clock; omega, h.went, h.w, h.rate, by have := h.asked; omega, by have := h.hits; omega, by have := h.last; omega, by have := h.still; omega, h.tape, h.al, h.bl⟩
theorem TMap.get_del {α : Type} {m : TMap α} {k c : ByteArray} {v : α} (h : (m.del k).get c = some v) : m.get c = some v ∧ c ≠ k := by
  unfold TMap.get TMap.del at *
  induction m with
  | nil => cases h
  | cons p m ih =>
    rw [List.filter_cons] at h
    by_cases hp : p.1 = k
    · rw [if_neg (by simp [hp])] at h
      obtain ⟨h1, h2⟩ := ih h
      refine ⟨?_, h2⟩
      rw [List.find?_cons]
      have : decide (p.1 = c) = false := decide_eq_false (fun e => h2 (e ▸ hp))
      rw [this]
      exact h1
    · rw [if_pos (by simp [hp])] at h
      rw [List.find?_cons] at h ⊢
      by_cases hc : p.1 = c
      · rw [decide_eq_true hc] at h ⊢
        exact ⟨h, fun e => hp (hc.trans e)⟩
      · rw [decide_eq_false hc] at h ⊢
        exact ih h
theorem TMap.get_put {α : Type} {m : TMap α} {k c : ByteArray} {v : α} : (m.put k v).get c = if c = k then some v else m.get c := by
  have key : ∀ (m : TMap α), TMap.get (m.map fun p => if p.1 = k then (k, v) else p) c = if c = k then (if m.has k then some v else none) else m.get c := by
    intro m
    induction m with
    | nil => unfold TMap.get TMap.has; simp
    | cons p m ih =>
      unfold TMap.get TMap.has at *
      rw [List.map_cons, List.find?_cons, List.any_cons, List.find?_cons]
      by_cases hp : p.1 = k
      · rw [if_pos hp]
        by_cases hc : c = k
        · subst hc; simp [hp]
        · have h1 : decide (k = c) = false := decide_eq_false (fun e => hc e.symm)
          have h2 : decide (p.1 = c) = false := decide_eq_false (fun e => hc (e.symm.trans hp))
          simp only [h1, h2]
          rw [ih, if_neg hc, if_neg hc]
      · rw [if_neg hp]
        by_cases hc : p.1 = c
        · have h1 : ¬ c = k := fun e => hp (hc.trans e)
          simp [hc, h1]
        · simp only [decide_eq_false hc, decide_eq_false hp, Bool.false_or]
          exact ih
  unfold TMap.put
  split
  · rename_i hk
    rw [key, hk]
    simp
  · rename_i hk
    have hk' : m.has k = false := by simpa using hk
    unfold TMap.get TMap.has at *
    rw [List.find?_append]
    by_cases hc : c = k
    · subst hc
      rw [if_pos rfl]
      have : List.find? (fun p => decide (p.1 = c)) m = none := by
        rw [List.find?_eq_none]
        intro p hp
        have := (List.any_eq_false.1 hk') p hp
        simpa using this
      rw [this]
      simp
    · rw [if_neg hc]
      have : List.find? (fun p : ByteArray × α => decide (p.1 = c)) [(k, v)] = none := by
        simp
        exact fun e => hc e.symm
      rw [this, Option.or_none]
theorem delAll_get {α : Type} {c : ByteArray} {v : α} : ∀ {l : List ByteArray} {m : TMap α}, (delAll m l).get c = some v → m.get c = some v ∧ c ∉ l
  | [], _, h => ⟨h, by simp⟩
  | k :: l, m, h => by
    obtain ⟨h1, h2⟩ := delAll_get (l := l) (m := m.del k) h
    obtain ⟨h3, h4⟩ := TMap.get_del h1
    exact ⟨h3, by simp [h4, h2]⟩
theorem Ln.forget_fit {i : Nat} {s : Ln} (h : s.Fit i) (k : ByteArray) : (s.forget k).Fit i :=
  { h with
    ga := Nat.le_trans (kDel_len _ _) h.ga
    gb := Nat.le_trans (kDel_len _ _) h.gb
    went := fun c t hc => h.went c t (TMap.get_del hc).1 }
theorem fshare_w {w f : Nat} (h : 46116860184273879 ≤ w ∧ w ≤ 4611686018427387904 - 46116860184273879) :
    (46116860184273879 ≤ fshare (fmul w f) (fOne - w) 46116860184273879 ∧ fshare (fmul w f) (fOne - w) 46116860184273879 ≤ 4611686018427387904 - 46116860184273879) ∧
    (46116860184273879 ≤ fshare w (fmul (fOne - w) f) 46116860184273879 ∧ fshare w (fmul (fOne - w) f) 46116860184273879 ≤ 4611686018427387904 - 46116860184273879) := by
  unfold fOne
  exact ⟨fshare_least (by unfold badShare; omega), fshare_least (by unfold badShare; omega)⟩
theorem Ln.regret_fit {i : Nat} {s : Ln} (h : s.Fit i) (k : ByteArray) : (s.regret k).Fit i := by
  unfold Ln.regret
  split
  · exact h
  · dsimp only
    refine Ln.forget_fit ?_ k
    refine { h with w := ?_ }
    dsimp only
    rw [fpart_100]
    split
    · exact (fshare_w h.w).1
    · exact (fshare_w h.w).2
theorem Ln.gone_fit {i : Nat} {s : Ln} (h : s.Fit i) (k : ByteArray) : (s.gone k).Fit i := { h with a := Pol.remove_fit h.a k, b := Pol.remove_fit h.b k, al := ((s.A.sort k 0).1 h.al).2.2.1, bl := ((s.B.sort k 0).2 h.bl).2.2.1 }
theorem Ln.trimA_fit {i : Nat} {s : Ln} (h : s.Fit i) : s.trimA.Fit i := { h with ga := Nat.le_trans (List.length_take_le' _ _) h.ga, went := fun c t hc => h.went c t (delAll_get hc).1 }
theorem Ln.trimB_fit {i : Nat} {s : Ln} (h : s.Fit i) : s.trimB.Fit i := { h with gb := Nat.le_trans (List.length_take_le' _ _) h.gb, went := fun c t hc => h.went c t (delAll_get hc).1 }
theorem Ln.room_fit {i : Nat} {s : Ln} (h : s.Fit i) : s.room.1.Fit (i + 1) := by
  unfold Ln.room
  split
  · exact h.mono (by omega)
  dsimp only
  have hw : ∀ (k : ByteArray) c t, (s.went.put k s.clock).get c = some t → 0 ≤ t ∧ t ≤ s.clock := fun k c t hc => by
    rw [TMap.get_put] at hc
    split at hc
    · obtain rfl := Option.some.inj hc
      have := h.clock
      omega
    · exact h.went c t hc
  have h1 := h.mono (Nat.le_succ i)
  split
  · refine Ln.trimA_fit ?_
    have h2 : Ln.Fit (i + 1) (Ln.gone { s with tape := tNext s.tape s.lane } s.A.victim.1) := Ln.gone_fit (s := { s with tape := tNext s.tape s.lane }) { h1 with tape := tNext_lt h.tape _ } _
    exact { h2 with ga := Nat.le_trans (kFront_len _ _) (Nat.succ_le_succ h.ga), went := hw _ }
  · refine Ln.trimB_fit ?_
    have h2 : Ln.Fit (i + 1) (Ln.gone { s with tape := tNext s.tape s.lane } s.B.victim.1) := Ln.gone_fit (s := { s with tape := tNext s.tape s.lane }) { h1 with tape := tNext_lt h.tape _ } _
    exact { h2 with gb := Nat.le_trans (kFront_len _ _) (Nat.succ_le_succ h.gb), went := hw _ }
theorem Ln.adopts_fit {i : Nat} {s : Ln} (h : s.Fit i) (k : ByteArray) : (s.adopts k).Fit (i + 1) :=
  { h.mono (Nat.le_succ i) with a := Pol.adopt_fit h.a k, b := Pol.adopt_fit h.b k, al := ((s.A.sort k 0).1 h.al).2.1, bl := ((s.B.sort k 0).2 h.bl).2.1 }
theorem rate_up (r : Nat) (h : r ≤ 4611686018427387904) : fadd r (r / 4) = r + r / 4 := by
  unfold fadd
  rw [if_pos (by omega)]
theorem Ln.window_fit {i : Nat} {s : Ln} (h : s.Fit i) : s.window.Fit (i + 1) := by
  unfold Ln.window
  dsimp only
  have h1 := h.mono (Nat.le_succ i)
  have ha := h.asked
  have hh := h.hits
  have hs := h.still
  split
  · exact { h1 with asked := by dsimp only; omega }
  · have hf : fOne = 4611686018427387904 := rfl
    split
    · exact { h1 with asked := by dsimp only; omega, hits := by dsimp only; omega, last := by dsimp only; omega }
    split
    · split
      · exact { h1 with asked := by dsimp only; omega, hits := by dsimp only; omega, last := by dsimp only; omega, still := by dsimp only; omega, rate := by have := tHead_lt h.tape s.lane; dsimp only; rw [fpart_1000]; omega, tape := tNext_lt h.tape _ }
      · exact { h1 with asked := by dsimp only; omega, hits := by dsimp only; omega, last := by dsimp only; omega, still := by dsimp only; omega }
    · exact { h1 with asked := by dsimp only; omega, hits := by dsimp only; omega, last := by dsimp only; omega, still := by dsimp only; omega, rate := by dsimp only; rw [fpart_1000, hf]; omega }
theorem Ln.req_fit {i : Nat} {s : Ln} (h : s.Fit i) (k : ByteArray) : (s.req k).1.Fit (i + 4) := by
  have h1 : Ln.Fit (i + 1) { s with clock := s.clock + 1 } := { h.mono (Nat.le_succ i) with clock := by have := h.clock; dsimp only; omega, went := fun c t hc => by have := h.went c t hc; dsimp only; omega }
  unfold Ln.req
  dsimp only
  split
  · exact h1.mono (by omega)
  split
  · refine Ln.Fit.mono (Ln.window_fit (i := i + 1) ?_) (by omega)
    have h2 := h.hits
    exact { h1 with a := Pol.req_fit h.a k, b := Pol.req_fit h.b k, hits := by dsimp only; omega, al := ((s.A.sort k 0).1 h.al).1, bl := ((s.B.sort k 0).2 h.bl).1 }
  · exact Ln.window_fit (Ln.adopts_fit (Ln.room_fit (Ln.regret_fit h1 k)) k)
theorem Ln.remove_fit {i : Nat} {s : Ln} (h : s.Fit i) (k : ByteArray) : (s.remove k).Fit i := Ln.forget_fit (Ln.gone_fit h k) k
theorem Ln.adopt_fit {i : Nat} {s : Ln} (h : s.Fit i) (k : ByteArray) : (s.adopt k).1.Fit (i + 1) := by
  unfold Ln.adopt
  split
  · exact h.mono (Nat.le_succ i)
  · exact Ln.adopts_fit (Ln.forget_fit h k) k
theorem Ln.drop_fit {i : Nat} {s : Ln} (h : s.Fit i) : s.drop.Fit i := by
  unfold Ln.drop
  split
  · exact Ln.gone_fit h _
  · exact h
theorem Ln.dropN_fit {i : Nat} : ∀ (j : Nat) {s : Ln}, s.Fit i → (Ln.dropN j s).1.Fit i
  | 0, _, h => h
  | j + 1, _, h => Ln.dropN_fit j (Ln.drop_fit h)
theorem Ln.resize_fit {i : Nat} {s : Ln} (h : s.Fit i) (m : Nat) : (s.resize m).1.Fit i := by
  unfold Ln.resize
  dsimp only
  have h1 := Ln.dropN_fit (s.len - m) h
  exact Ln.trimB_fit (Ln.trimA_fit { h1 with a := Pol.resize_fit h1.a m, b := Pol.resize_fit h1.b m, al := ((_ : Pol).sort bNil m).1 h1.al |>.2.2.2, bl := ((_ : Pol).sort bNil m).2 h1.bl |>.2.2.2 })
end Go.Proofs.YtbbdimlpofjlfaaGreatDoor
/- A learner that is asked four or five times: what the document fixes. -/
namespace Go.Proofs.YtbbdimlpofjlfaaGreatDoor
open Go Go.RowKit

def Ln.new (kind : Int) (most : Nat) (t : List (List Nat)) (lane : Nat) : Ln :=
  ⟨kind, most, t, lane, if kind = 6 then .sr ⟨most, most / 2, [], [], [], []⟩ else .lru ⟨most, []⟩, .lfu ⟨most, 0, decide (kind = 6), [], 0⟩, [], [], [], 0, 2305843009213693952, 2075258708292324556, 0, 0, 0, 0, true, false⟩
theorem Ln.new_fit (kind : Int) (most : Nat) (t : List (List Nat)) (lane : Nat) (ht : ∀ l ∈ t, ∀ x ∈ l, x < 18446744073709551616) : (Ln.new kind most t lane).Fit 0 where
  a := by
    unfold Ln.new
    dsimp only
    split
    · exact ⟨Nat.le_refl _, rfl, Nat.div_le_self _ _⟩
    · exact ⟨Nat.le_refl _, rfl⟩
  b := ⟨Nat.le_refl _, by show (0 : Int) ≤ ((0 : Nat) : Int); omega, rfl⟩
  ga := Nat.le_refl _
  gb := Nat.le_refl _
  clock := by show (0 : Int) ≤ 0 ∧ (0 : Int) ≤ ((0 : Nat) : Int); omega
  went := fun k t h => by cases h
  w := by show 46116860184273879 ≤ 2305843009213693952 ∧ 2305843009213693952 ≤ 4611686018427387904 - 46116860184273879; omega
  rate := by show 4611686018427387 ≤ 2075258708292324556 ∧ 2075258708292324556 ≤ 4611686018427387904; omega
  asked := by show (0 : Int) ≤ 0 ∧ (0 : Int) ≤ ((0 : Nat) : Int); omega
  hits := by show (0 : Int) ≤ 0 ∧ (0 : Int) ≤ ((0 : Nat) : Int); omega
  last := by show (0 : Int) ≤ 0 ∧ (0 : Int) ≤ ((0 : Nat) : Int); omega
  still := by show (0 : Int) ≤ 0 ∧ (0 : Int) ≤ ((0 : Nat) : Int); omega
  tape := ht
  al := by
    unfold Ln.new
    dsimp only
    intro q h
    split at h <;> cases h
  bl := fun q h => by cases h
def awT : List (List Nat) := [[0, 18446744073709551615]]
def aw1 (k : Int) : Ln × Stp := (Ln.new k 2 awT 0).req ⟨#[97]⟩
def aw2 (k : Int) : Ln × Stp := (aw1 k).1.req ⟨#[97]⟩
def aw3 (k : Int) : Ln × Stp := (aw2 k).1.req ⟨#[98]⟩
def aw4 (k : Int) : Ln × Stp := (aw3 k).1.req ⟨#[99]⟩
def aw5 (k : Int) : Ln × Stp := (aw4 k).1.req (aw4 k).2.victim
theorem aw_5 : (aw2 5).2 = ⟨true, bNil, false⟩ ∧ (aw4 5).2 = ⟨false, ⟨#[97]⟩, true⟩ ∧ (aw4 5).1.len = 2 ∧ (aw4 5).1.has ⟨#[99]⟩ = true ∧ (aw4 5).1.ghosts = [⟨#[97]⟩] ∧ (aw4 5).1.w = 2305843009213693952 ∧ (aw4 5).1.kind = 5 ∧ (aw4 5).1.most = 2 :=
  ⟨by kernel_rfl, by kernel_rfl, by kernel_rfl, by kernel_rfl, by kernel_rfl, by kernel_rfl, by kernel_rfl, by kernel_rfl⟩
theorem aw_6 : (aw2 6).2 = ⟨true, bNil, false⟩ ∧ (aw4 6).2 = ⟨false, ⟨#[98]⟩, true⟩ ∧ (aw4 6).1.len = 2 ∧ (aw4 6).1.has ⟨#[99]⟩ = true ∧ (aw4 6).1.ghosts = [⟨#[98]⟩] ∧ (aw4 6).1.w = 2305843009213693952 ∧ (aw4 6).1.kind = 6 ∧ (aw4 6).1.most = 2 :=
  ⟨by kernel_rfl, by kernel_rfl, by kernel_rfl, by kernel_rfl, by kernel_rfl, by kernel_rfl, by kernel_rfl, by kernel_rfl⟩
theorem aw5_5 : (aw5 5).1.w < 2305843009213693952 := by decide +kernel
theorem aw5_6 : (aw5 6).1.w < 2305843009213693952 := by decide +kernel
end Go.Proofs.YtbbdimlpofjlfaaGreatDoor
/- What no call of a learner changes, with no program in sight. -/
namespace Go.Proofs.YtbbdimlpofjlfaaGreatDoor
open Go Go.RowKit

structure Ln.Like (s t : Ln) : Prop where
  kind : t.kind = s.kind
  most : t.most = s.most
  lane : t.lane = s.lane
theorem Ln.Like.refl (s : Ln) : Ln.Like s s := ⟨rfl, rfl, rfl⟩
theorem Ln.Like.trans {s t u : Ln} (h : Ln.Like s t) (k : Ln.Like t u) : Ln.Like s u := ⟨k.kind.trans h.kind, k.most.trans h.most, k.lane.trans h.lane⟩
theorem Ln.regret_like (s : Ln) (k : ByteArray) : Ln.Like s (s.regret k) := by
  unfold Ln.regret
  split
  · exact Ln.Like.refl s
  · exact ⟨rfl, rfl, rfl⟩
theorem Ln.room_like (s : Ln) : Ln.Like s s.room.1 := by
  unfold Ln.room
  split
  · exact Ln.Like.refl s
  · dsimp only
    split <;> exact ⟨rfl, rfl, rfl⟩
theorem Ln.window_like (s : Ln) : Ln.Like s s.window := by
  unfold Ln.window
  dsimp only
  split
  · exact ⟨rfl, rfl, rfl⟩
  · split
    · exact ⟨rfl, rfl, rfl⟩
    · split
      · split <;> exact ⟨rfl, rfl, rfl⟩
      · exact ⟨rfl, rfl, rfl⟩
theorem Ln.req_like (s : Ln) (k : ByteArray) : Ln.Like s (s.req k).1 := by
  unfold Ln.req
  dsimp only
  split
  · exact ⟨rfl, rfl, rfl⟩
  split
  · have h := Ln.window_like { s with clock := s.clock + 1, hits := s.hits + 1, A := (s.A.req k).1, B := (s.B.req k).1 }
    exact ⟨h.kind, h.most, h.lane⟩
  · have h1 : Ln.Like s { s with clock := s.clock + 1 } := ⟨rfl, rfl, rfl⟩
    have h2 := Ln.regret_like { s with clock := s.clock + 1 } k
    have h3 := Ln.room_like (Ln.regret { s with clock := s.clock + 1 } k)
    have h4 := Ln.window_like ((Ln.regret { s with clock := s.clock + 1 } k).room.1.adopts k)
    have h5 := ((h1.trans h2).trans h3)
    exact ⟨h4.kind.trans h5.kind, h4.most.trans h5.most, h4.lane.trans h5.lane⟩
theorem Ln.remove_like (s : Ln) (k : ByteArray) : Ln.Like s (s.remove k) := ⟨rfl, rfl, rfl⟩
theorem Ln.adopt_like (s : Ln) (k : ByteArray) : Ln.Like s (s.adopt k).1 := by
  unfold Ln.adopt
  split <;> exact ⟨rfl, rfl, rfl⟩
theorem Ln.drop_like (s : Ln) : Ln.Like s s.drop := by
  unfold Ln.drop
  split <;> exact ⟨rfl, rfl, rfl⟩
theorem awT_lt : ∀ l ∈ awT, ∀ x ∈ l, x < 18446744073709551616 := by
  intro l hl x hx
  simp [awT] at hl
  subst hl
  simp at hx
  omega
theorem aw_fit (k : Int) : (aw1 k).1.Fit 4 ∧ (aw2 k).1.Fit 8 ∧ (aw3 k).1.Fit 12 ∧ (aw4 k).1.Fit 16 ∧ (aw5 k).1.Fit 20 := by
  have h0 := Ln.new_fit k 2 awT 0 awT_lt
  have h1 : (aw1 k).1.Fit 4 := Ln.req_fit h0 _
  have h2 : (aw2 k).1.Fit 8 := Ln.req_fit h1 _
  have h3 : (aw3 k).1.Fit 12 := Ln.req_fit h2 _
  have h4 : (aw4 k).1.Fit 16 := Ln.req_fit h3 _
  exact ⟨h1, h2, h3, h4, Ln.req_fit h4 _⟩
theorem aw_most (k : Int) : (Ln.new k 2 awT 0).most ≤ 16777216 ∧ (aw1 k).1.most ≤ 16777216 ∧ (aw2 k).1.most ≤ 16777216 ∧ (aw3 k).1.most ≤ 16777216 ∧ (aw4 k).1.most ≤ 16777216 := by
  have h0 : (Ln.new k 2 awT 0).most = 2 := rfl
  have h1 : (aw1 k).1.most = 2 := (Ln.req_like _ _).most
  have h2 : (aw2 k).1.most = 2 := (Ln.req_like _ _).most.trans h1
  have h3 : (aw3 k).1.most = 2 := (Ln.req_like _ _).most.trans h2
  have h4 : (aw4 k).1.most = 2 := (Ln.req_like _ _).most.trans h3
  omega
end Go.Proofs.YtbbdimlpofjlfaaGreatDoor
