/- A cache of one of the seven kinds: what it does, with no program in sight. -/
import Derived.Test.YtbbdimlpofjlfaaGreatDoorQTwMiss
import Derived.Test.YtbbdimlpofjlfaaGreatDoorQTwLearn
import Derived.Test.YtbbdimlpofjlfaaGreatDoorQArc10
namespace Go.Proofs.YtbbdimlpofjlfaaGreatDoor
open Go Go.RowKit

abbrev Tape := List (List Nat)
def tOk (t : Tape) : Prop := ∀ l ∈ t, ∀ x ∈ l, x < 18446744073709551616
inductive Ca where
  | pol (n : Int) (p : Pol)
  | arc (s : Arc)
  | ln (s : Ln)
def Ca.kind : Ca → Int
  | .pol n _ => n
  | .arc _ => 4
  | .ln s => s.kind
def Ca.most : Ca → Nat
  | .pol _ p => p.most
  | .arc s => s.most
  | .ln s => s.most
def Ca.res : Ca → List ByteArray
  | .pol _ p => p.res
  | .arc s => s.res
  | .ln s => s.A.res
def Ca.has : Ca → ByteArray → Bool
  | .pol _ p, k => p.has k
  | .arc s, k => s.has k
  | .ln s, k => s.has k
def Ca.len : Ca → Nat
  | .pol _ p => p.len
  | .arc s => s.len
  | .ln s => s.len
def Ca.keys : Ca → List ByteArray
  | .pol _ p => p.keys
  | .arc s => s.keys
  | .ln s => s.A.keys
def Ca.ghosts : Ca → List ByteArray
  | .pol _ p => p.ghosts
  | .arc s => s.ghosts
  | .ln s => s.ghosts
def Ca.req : Ca → Tape → ByteArray → Ca × Tape × Stp
  | .pol n p, t, k => (.pol n (p.req k).1, t, (p.req k).2)
  | .arc s, t, k => (.arc (s.req k).1, t, (s.req k).2)
  | .ln s, t, k => (.ln (({ s with tape := t } : Ln).req k).1, (({ s with tape := t } : Ln).req k).1.tape, (({ s with tape := t } : Ln).req k).2)
def Ca.remove : Ca → ByteArray → Ca
  | .pol n p, k => .pol n (p.remove k)
  | .arc s, k => .arc (s.off k)
  | .ln s, k => .ln (s.remove k)
def Ca.adopt : Ca → ByteArray → Ca × Bool
  | .pol n p, k => (.pol n (p.adopt k).1, (p.adopt k).2)
  | .arc s, k => (.arc (s.adopt k).1, (s.adopt k).2)
  | .ln s, k => (.ln (s.adopt k).1, (s.adopt k).2)
def Ca.victim : Ca → ByteArray × Bool
  | .pol _ p => p.victim
  | .arc s => s.victim
  | .ln s => s.victim
def Ca.drop : Ca → Ca
  | .pol n p => .pol n p.drop
  | .arc s => .arc s.drop
  | .ln s => .ln s.drop
def Ca.resize : Ca → Nat → Ca × List ByteArray
  | .pol n p, m => (.pol n (p.resize m).1, (p.resize m).2)
  | .arc s, m => (.arc (s.resize m).1, (s.resize m).2)
  | .ln s, m => (.ln (s.resize m).1, (s.resize m).2)
def Ca.weight : Ca → Nat × Bool
  | .pol _ _ => (0, false)
  | .arc _ => (0, false)
  | .ln s => (s.w, true)
def Ca.new (kind : Nat) (most lane : Nat) : Ca :=
  match kind with
  | 0 => .pol 0 (.lru ⟨most, []⟩)
  | 1 => .pol 1 (.lfu ⟨most, 0, false, [], 0⟩)
  | 2 => .pol 2 (.lfu ⟨most, 0, true, [], 0⟩)
  | 3 => .pol 3 (.sr ⟨most, most / 2, [], [], [], []⟩)
  | 4 => .arc (Arc.new most)
  | 5 => .ln (Ln.new 5 most [] lane)
  | _ => .ln (Ln.new 6 most [] lane)
/-! ### Residents -/
def Ca.Inv : Ca → Prop
  | .pol _ p => p.Inv ∧ p.res.length ≤ p.most
  | .arc s => s.Inv
  | .ln s => s.Inv
theorem Ca.Inv.nodup {c : Ca} (h : c.Inv) : c.res.Nodup := by
  cases c with
  | pol n p => exact Pol.Inv.nodup h.1
  | arc s => exact Arc.One.nodup (Arc.Inv.toOne h)
  | ln s => exact Pol.Inv.nodup (Ln.Inv0.a (Ln.Inv.toInv0 h))
theorem Ca.Inv.le {c : Ca} (h : c.Inv) : c.res.length ≤ c.most := by
  cases c with
  | pol n p => exact h.2
  | arc s => have := Arc.Inv.len h; show (s.t1 ++ s.t2).length ≤ s.most; rw [List.length_append]; exact this
  | ln s => exact Ln.Inv0.len (Ln.Inv.toInv0 h)
theorem Ca.len_res (c : Ca) : c.len = c.res.length := by
  cases c with
  | pol n p => exact Pol.len_res p
  | arc s => exact Arc.len_res s
  | ln s => exact Ln.len_res s
theorem Ca.has_res {c : Ca} (h : c.Inv) (k : ByteArray) : c.has k = decide (k ∈ c.res) := by
  cases c with
  | pol n p => exact Pol.has_res h.1 k
  | arc s => exact Arc.has_res s k
  | ln s => exact Ln.Inv0.has (Ln.Inv.toInv0 h) k
theorem Ca.keys_res (c : Ca) : (∀ k, k ∈ c.keys ↔ k ∈ c.res) ∧ c.keys.length = c.res.length := by
  cases c with
  | pol n p => exact Pol.keys_res p
  | arc s =>
    show (∀ k, k ∈ s.t1.reverse ++ s.t2.reverse ↔ k ∈ s.t1 ++ s.t2) ∧ (s.t1.reverse ++ s.t2.reverse).length = (s.t1 ++ s.t2).length
    refine ⟨fun c => by rw [List.mem_append, List.mem_append, List.mem_reverse, List.mem_reverse], by rw [List.length_append, List.length_append, List.length_reverse, List.length_reverse]⟩
  | ln s => exact Pol.keys_res s.A
theorem perm_nodup : ∀ {l m : List ByteArray}, l.Nodup → (∀ c, c ∈ m ↔ c ∈ l) → m.length = l.length → m.Nodup
  | l, [], _, _, _ => List.nodup_nil
  | l, x :: m, hl, h, hn => by
    have hx : x ∈ l := (h x).1 (by simp)
    have hk := kDel_length hl hx
    rw [List.length_cons] at hn
    by_cases hxm : x ∈ m
    · -- then the rest has all of l, and is too short
      exfalso
      have : l.length ≤ m.length := sub_len hl fun c hc => by
        rcases List.mem_cons.1 ((h c).2 hc) with rfl | hc
        · exact hxm
        · exact hc
      omega
    · refine List.nodup_cons.2 ⟨hxm, perm_nodup (kDel_nodup x hl) (fun c => ?_) (by omega)⟩
      rw [kDel_mem, ← h c, List.mem_cons]
      constructor
      · exact fun hc => ⟨.inr hc, fun e => hxm (e ▸ hc)⟩
      · rintro ⟨hc | hc, hne⟩
        · exact absurd hc hne
        · exact hc
theorem Ca.keys_nodup {c : Ca} (h : c.Inv) : c.keys.Nodup := perm_nodup h.nodup c.keys_res.1 c.keys_res.2
theorem Miss.len {R R' : List ByteArray} {m : Nat} {k : ByteArray} {s : Stp} (h : Miss R R' m k s) (hR : R.Nodup) (hR' : R'.Nodup) (hk : k ∉ R) (hl : R.length ≤ m) : R'.length ≤ m ∧ R.length ≤ R'.length := by
  cases h with
  | less h1 h2 => have := len_add hR hR' hk h2; omega
  | full v h1 h2 h3 =>
    have h4 : ∀ c, c ∈ kDel R v ↔ c ∈ R ∧ c ≠ v := fun c => kDel_mem
    have h5 := len_sub hR (kDel_nodup v hR) h2 h4
    have h6 := len_add (kDel_nodup v hR) hR' (fun hc => hk ((h4 k).1 hc).1) (fun c => by rw [h3, h4])
    omega
/-- A request of a resident. -/
theorem Ca.hit {c : Ca} (h : c.Inv) (t : Tape) (k : ByteArray) (hk : k ∈ c.res) : (c.req t k).1.Inv ∧ (∀ x, x ∈ (c.req t k).1.res ↔ x ∈ c.res) ∧ (c.req t k).2.2 = ⟨true, bNil, false⟩ := by
  have hm : c.most ≠ 0 := fun e => by
    have := h.le
    rw [e] at this
    rw [List.length_eq_zero_iff.1 (Nat.le_zero.1 this)] at hk
    cases hk
  cases c with
  | pol n p =>
    obtain ⟨h1, h2, h3⟩ := Pol.hit_res h.1 k hk hm
    refine ⟨⟨h1, ?_⟩, h2, h3⟩
    rw [Pol.req_most, same_len h1.nodup (Pol.Inv.nodup h.1) h2]
    exact h.2
  | arc s => exact Arc.hit_res h k hk hm
  | ln s =>
    have hi : s.Inv := h
    obtain ⟨h1, h2⟩ := Ln.req_inv (hi.tape t) hm k
    refine ⟨h1, ?_⟩
    show (∀ x, x ∈ (({ s with tape := t } : Ln).req k).1.A.res ↔ x ∈ s.A.res) ∧ (({ s with tape := t } : Ln).req k).2 = _
    have hk' : k ∈ ({ s with tape := t } : Ln).A.res := hk
    obtain ⟨st, hst⟩ : ∃ st, (({ s with tape := t } : Ln).req k).2 = st := ⟨_, rfl⟩
    rw [hst] at h2 ⊢
    cases h2 with
    | hit _ h3 => exact ⟨h3, rfl⟩
    | less h3 => exact absurd hk' h3
    | full v h3 => exact absurd hk' h3
theorem Ca.miss {c : Ca} (h : c.Inv) (t : Tape) (k : ByteArray) (hk : k ∉ c.res) (hm : c.most ≠ 0) : (c.req t k).1.Inv ∧ Miss c.res (c.req t k).1.res c.most k (c.req t k).2.2 := by
  cases c with
  | pol n p =>
    obtain ⟨h1, h2⟩ := Pol.miss_res h.1 k hk hm
    refine ⟨⟨h1, ?_⟩, h2⟩
    rw [Pol.req_most]
    exact (h2.len (Pol.Inv.nodup h.1) h1.nodup hk h.2).1
  | arc s => exact Arc.miss_res h k hk hm
  | ln s =>
    have hi : s.Inv := h
    obtain ⟨h1, h2⟩ := Ln.req_inv (hi.tape t) hm k
    refine ⟨h1, ?_⟩
    show Miss s.A.res (({ s with tape := t } : Ln).req k).1.A.res s.most k (({ s with tape := t } : Ln).req k).2
    have hk' : k ∉ ({ s with tape := t } : Ln).A.res := hk
    obtain ⟨st, hst⟩ : ∃ st, (({ s with tape := t } : Ln).req k).2 = st := ⟨_, rfl⟩
    rw [hst] at h2 ⊢
    cases h2 with
    | hit h3 => exact absurd h3 hk'
    | less _ h3 h4 => exact .less h3 h4
    | full v _ h3 h4 h5 => exact .full v h3 h4 h5
theorem Ca.zero {c : Ca} (h : c.Inv) (t : Tape) (k : ByteArray) (hm : c.most = 0) : (c.req t k).1.Inv ∧ (c.req t k).1.res = [] ∧ c.res = [] ∧ (c.req t k).2.2 = ⟨false, bNil, false⟩ := by
  have hr : c.res = [] := List.length_eq_zero_iff.1 (by have := h.le; omega)
  cases c with
  | pol n p =>
    have e := Pol.zero hm hr k h.1
    refine ⟨?_, ?_, hr, ?_⟩
    · show Pol.Inv (p.req k).1 ∧ (p.req k).1.res.length ≤ (p.req k).1.most; rw [e]; exact h
    · show (p.req k).1.res = []; rw [e]; exact hr
    · show (p.req k).2 = _; rw [e]
  | arc s =>
    have hm' : s.most = 0 := hm
    have hk : s.has k = false := by rw [Arc.has_res, show s.res = [] from hr]; rfl
    have e : s.req k = (s, ⟨false, bNil, false⟩) := by unfold Arc.req; rw [if_pos hm', hk]
    refine ⟨?_, ?_, hr, ?_⟩
    · show Arc.Inv (s.req k).1; rw [e]; exact h
    · show (s.req k).1.res = []; rw [e]; exact hr
    · show (s.req k).2 = _; rw [e]
  | ln s =>
    have hi : s.Inv := h
    obtain ⟨e1, e2⟩ := Ln.req_zero (hi.tape t) hm k
    refine ⟨?_, ?_, hr, e2⟩
    · show Ln.Inv _
      rw [e1]
      exact (hi.tape t).clock _
    · show Pol.res (Ln.A _) = []
      rw [e1]
      exact hr
theorem Arc.yield_keep (s : Arc) (d : Bool) : (s.yield d).1.p = s.p ∧ (s.yield d).1.most = s.most ∧ (s.yield d).1.size ≤ s.size := by
  refine ⟨?_, (Arc.yield_step s d).2.1, (Arc.yield_step s d).1⟩
  unfold Arc.yield
  split
  · rfl
  · split <;> rfl
theorem Arc.room_keep (s : Arc) (d : Bool) : (s.room d).1.p = s.p ∧ (s.room d).1.most = s.most ∧ (s.room d).1.size ≤ s.size := by
  unfold Arc.room
  split
  · exact ⟨rfl, rfl, Nat.le_refl _⟩
  · exact Arc.yield_keep s d
theorem Arc.fresh_keep (s : Arc) : s.fresh.1.p = s.p ∧ s.fresh.1.most = s.most ∧ s.fresh.1.size ≤ s.size := by
  have h1 : s.t1.dropLast.length = s.t1.length - 1 := List.length_dropLast
  have h2 : s.b1.dropLast.length = s.b1.length - 1 := List.length_dropLast
  have h3 : s.b2.dropLast.length = s.b2.length - 1 := List.length_dropLast
  unfold Arc.fresh
  split
  · split
    · exact ⟨rfl, rfl, by unfold Arc.size; dsimp only; omega⟩
    · obtain ⟨a, b, c⟩ := Arc.room_keep { s with b1 := s.b1.dropLast } false
      exact ⟨a, b, Nat.le_trans c (by unfold Arc.size; dsimp only; omega)⟩
  split
  · obtain ⟨a, b, c⟩ := Arc.room_keep { s with b2 := s.b2.dropLast } false
    exact ⟨a, b, Nat.le_trans c (by unfold Arc.size; dsimp only; omega)⟩
  split
  · exact ⟨rfl, rfl, Nat.le_refl _⟩
  · exact Arc.room_keep s false
theorem Arc.req_keep (s : Arc) (k : ByteArray) (hp : s.p ≤ s.most) : (s.req k).1.most = s.most ∧ (s.req k).1.p ≤ s.most ∧ (s.req k).1.size ≤ s.size + 1 := by
  unfold Arc.req
  split
  · exact ⟨rfl, hp, Nat.le_succ _⟩
  split
  · have h1 := kDel_len s.t1 k
    have h2 := kFront_len s.t2 k
    exact ⟨rfl, hp, by unfold Arc.size; dsimp only; omega⟩
  split
  · have h1 := kDel_len s.t2 k
    have h2 := kFront_len (kDel s.t2 k) k
    exact ⟨rfl, hp, by unfold Arc.size; dsimp only; omega⟩
  split
  · dsimp only
    obtain ⟨a, b, c⟩ := Arc.room_keep { s with p := min s.most (s.p + max 1 (s.b2.length / s.b1.length)) } false
    obtain ⟨r, hr⟩ : ∃ r, Arc.room { s with p := min s.most (s.p + max 1 (s.b2.length / s.b1.length)) } false = r := ⟨_, rfl⟩
    rw [hr] at a b c ⊢
    have h1 := kDel_len r.1.b1 k
    have h2 := kFront_len r.1.t2 k
    refine ⟨b, ?_, ?_⟩
    · dsimp only at a ⊢; rw [a]; exact Nat.min_le_left _ _
    · unfold Arc.size at c ⊢; dsimp only at c ⊢; omega
  split
  · dsimp only
    obtain ⟨a, b, c⟩ := Arc.room_keep { s with p := s.p - max 1 (s.b1.length / s.b2.length) } true
    obtain ⟨r, hr⟩ : ∃ r, Arc.room { s with p := s.p - max 1 (s.b1.length / s.b2.length) } true = r := ⟨_, rfl⟩
    rw [hr] at a b c ⊢
    have h1 := kDel_len r.1.b2 k
    have h2 := kFront_len r.1.t2 k
    refine ⟨b, ?_, ?_⟩
    · dsimp only at a ⊢; rw [a]; omega
    · unfold Arc.size at c ⊢; dsimp only at c ⊢; omega
  · dsimp only
    obtain ⟨a, b, c⟩ := Arc.fresh_keep s
    have h2 := kFront_len s.fresh.1.t1 k
    refine ⟨b, ?_, ?_⟩
    · rw [a]; exact hp
    · unfold Arc.size at c ⊢; dsimp only at c ⊢; omega
theorem Arc.req_most (s : Arc) (k : ByteArray) : (s.req k).1.most = s.most := by
  unfold Arc.req
  split
  · rfl
  split
  · rfl
  split
  · rfl
  split
  · exact (Arc.room_keep _ _).2.1
  split
  · exact (Arc.room_keep _ _).2.1
  · exact (Arc.fresh_keep _).2.1
theorem Ca.req_keep (c : Ca) (t : Tape) (k : ByteArray) : (c.req t k).1.most = c.most ∧ (c.req t k).1.kind = c.kind := by
  cases c with
  | pol n p => exact ⟨Pol.req_most p k, rfl⟩
  | arc s => exact ⟨Arc.req_most s k, rfl⟩
  | ln s => have := Ln.req_like { s with tape := t } k; exact ⟨this.most, this.kind⟩
theorem Arc.off_keep (s : Arc) (k : ByteArray) : (s.off k).p = s.p ∧ (s.off k).most = s.most ∧ (s.off k).size ≤ s.size := by
  refine ⟨?_, Arc.off_most s k, Arc.off_size s k⟩
  unfold Arc.off
  split
  · rfl
  split
  · rfl
  split <;> rfl
theorem Ca.remove_res {c : Ca} (h : c.Inv) (k : ByteArray) : (c.remove k).Inv ∧ (∀ x, x ∈ (c.remove k).res ↔ x ∈ c.res ∧ x ≠ k) ∧ k ∉ (c.remove k).ghosts ∧ (c.remove k).most = c.most ∧ (c.remove k).kind = c.kind := by
  cases c with
  | pol n p =>
    obtain ⟨h1, h2⟩ := Pol.remove_res h.1 k
    refine ⟨⟨h1, ?_⟩, h2, (Pol.remove_ghosts p k).1, Pol.remove_most p k, rfl⟩
    rw [Pol.remove_most]
    exact Nat.le_trans (sub_len h1.nodup fun c hc => ((h2 c).1 hc).1) h.2
  | arc s =>
    obtain ⟨o1, o2, o3, o4, o5⟩ := Arc.off_res h k
    exact ⟨o1, o2, fun hc => (List.mem_append.1 hc).elim o3 o4, o5, rfl⟩
  | ln s =>
    obtain ⟨r1, r2, r3, r4⟩ := Ln.remove_inv h k
    exact ⟨r1, r2, fun hc => (List.mem_append.1 hc).elim r3 r4, (Ln.remove_like s k).most, (Ln.remove_like s k).kind⟩
theorem Pol.adopt_no {p : Pol} (h : p.Inv) (k : ByteArray) (hk : k ∈ p.res ∨ p.most ≤ p.res.length) : p.adopt k = (p, false) := by
  have hh := Pol.has_res h k
  have hl := Pol.len_res p
  cases p with
  | lru s =>
    show (Pol.lru (s.adopt k).1, (s.adopt k).2) = _
    unfold Lru.adopt
    rw [if_pos (show k ∈ s.ks ∨ s.most ≤ s.ks.length from hk)]
  | lfu s =>
    show (Pol.lfu (s.adopt k).1, (s.adopt k).2) = _
    unfold Lfu.adopt
    rw [if_pos (show s.has k = true ∨ s.most ≤ s.srt.length from hk.elim (fun hk => .inl (by rw [show s.has k = decide (k ∈ Pol.res (.lfu s)) from hh]; exact decide_eq_true hk)) (fun hk => .inr (by have := hKeys_len s.srt; have hk' : s.most ≤ (hKeys s.srt).length := hk; omega)))]
  | sr s =>
    show (Pol.sr (s.adopt k).1, (s.adopt k).2) = _
    unfold Sr.adopt
    rw [if_pos (show s.has k = true ∨ s.most ≤ s.len from hk.elim (fun hk => .inl (by rw [show s.has k = decide (k ∈ Pol.res (.sr s)) from hh]; exact decide_eq_true hk)) (fun hk => .inr (by rw [show s.len = (Pol.res (.sr s)).length from hl]; exact hk)))]
theorem Ca.adopt_no {c : Ca} (h : c.Inv) (k : ByteArray) (hk : k ∈ c.res ∨ c.most ≤ c.res.length) : c.adopt k = (c, false) := by
  cases c with
  | pol n p =>
    have e := Pol.adopt_no h.1 k hk
    show (Ca.pol n (p.adopt k).1, (p.adopt k).2) = _
    rw [e]
  | arc s =>
    have e := Arc.adopt_no k hk
    show (Ca.arc (s.adopt k).1, (s.adopt k).2) = _
    rw [e]
  | ln s =>
    have e := Ln.adopt_no h k hk
    show (Ca.ln (s.adopt k).1, (s.adopt k).2) = _
    rw [e]
theorem Arc.adopt_keep (s : Arc) (k : ByteArray) : (s.adopt k).1.p = s.p ∧ (s.adopt k).1.most = s.most ∧ (s.adopt k).1.size ≤ s.size + 1 := by
  obtain ⟨a, b, c⟩ := Arc.off_keep s k
  unfold Arc.adopt
  split
  · exact ⟨rfl, rfl, Nat.le_succ _⟩
  · dsimp only
    have h2 := kFront_len (s.off k).t1 k
    refine ⟨a, b, ?_⟩
    unfold Arc.trim Arc.size at *
    dsimp only at *
    rw [List.length_take, List.length_take]
    omega
theorem Ca.adopt_keep (c : Ca) (k : ByteArray) : (c.adopt k).1.most = c.most ∧ (c.adopt k).1.kind = c.kind := by
  cases c with
  | pol n p => exact ⟨Pol.adopt_most p k, rfl⟩
  | arc s => exact ⟨(Arc.adopt_keep s k).2.1, rfl⟩
  | ln s => have := Ln.adopt_like s k; exact ⟨this.most, this.kind⟩
theorem Ca.adopt_yes {c : Ca} (h : c.Inv) (k : ByteArray) (hk : k ∉ c.res) (hl : c.res.length < c.most) : (c.adopt k).1.Inv ∧ (∀ x, x ∈ (c.adopt k).1.res ↔ x = k ∨ x ∈ c.res) ∧ (c.adopt k).2 = true := by
  cases c with
  | pol n p =>
    obtain ⟨h1, h2, h3⟩ := Pol.adopt_res h.1 k hk hl
    refine ⟨⟨h1, ?_⟩, h2, h3⟩
    rw [Pol.adopt_most, len_add (Pol.Inv.nodup h.1) h1.nodup hk h2]
    exact hl
  | arc s => exact Arc.adopt_yes h k hk hl
  | ln s =>
    obtain ⟨a1, a2, a3, _⟩ := Ln.adopt_yes h k hk hl
    exact ⟨a2, a3, a1⟩
theorem Ca.victim_res {c : Ca} (h : c.Inv) : c.victim.2 = !c.res.isEmpty ∧ (c.res ≠ [] → c.victim.1 ∈ c.res) := by
  cases c with
  | pol n p => exact Pol.victim_res p
  | arc s => exact Arc.victim_res h
  | ln s =>
    have hi : s.Inv := h
    show s.victim.2 = !s.A.res.isEmpty ∧ (s.A.res ≠ [] → s.victim.1 ∈ s.A.res)
    unfold Ln.victim
    split
    · exact Pol.victim_res s.A
    · obtain ⟨v1, v2⟩ := Pol.victim_res s.B
      have hb : s.B.res = [] ↔ s.A.res = [] := by
        rw [← List.length_eq_zero_iff, ← List.length_eq_zero_iff, hi.lens]
      refine ⟨?_, fun hr => (hi.same _).2 (v2 (fun e => hr (hb.1 e)))⟩
      rw [v1]
      cases ha : s.A.res with
      | nil => rw [hb.2 ha]
      | cons x l =>
        cases hb2 : s.B.res with
        | nil => rw [hb.1 hb2] at ha; cases ha
        | cons => rfl
theorem Ca.drop_res {c : Ca} (h : c.Inv) : c.drop.Inv ∧ c.drop.most = c.most ∧ c.drop.kind = c.kind ∧ c.drop.ghosts = c.ghosts ∧ (c.res ≠ [] → ∀ x, x ∈ c.drop.res ↔ x ∈ c.res ∧ x ≠ c.victim.1) ∧ (c.res = [] → c.drop = c) := by
  have hv := Ca.victim_res h
  cases c with
  | pol n p =>
    obtain ⟨h1, h2, h3, h4, h5⟩ := Pol.drop_res h.1
    refine ⟨⟨h1, ?_⟩, h2, rfl, h3, h4, fun hr => by show Ca.pol n p.drop = _; rw [h5 hr]⟩
    rw [h2]
    by_cases hr : p.res = []
    · rw [h5 hr]; exact h.2
    · exact Nat.le_trans (sub_len h1.nodup fun c hc => ((h4 hr c).1 hc).1) h.2
  | arc s =>
    obtain ⟨h1, h2, h3, h4, h5⟩ := Arc.drop_rows h
    exact ⟨h1, h2, rfl, h3, h4, fun hr => by show Ca.arc s.drop = _; rw [h5 hr]⟩
  | ln s =>
    have hi : s.Inv := h
    have hl := Ln.drop_like s
    have hr := Ln.drop_rows s
    refine ⟨Ln.drop_inv hi, hl.most, hl.kind, by show s.drop.GA ++ s.drop.GB = _; rw [hr.1, hr.2]; rfl, fun hne => ?_, fun he => ?_⟩
    · exact (Ln.drop_step hi (by rw [Ln.len_res]; exact List.length_pos_iff.2 hne)).2.2.2.2
    · have hv1 : s.victim.2 = !s.A.res.isEmpty := hv.1
      show Ca.ln s.drop = _
      unfold Ln.drop
      rw [hv1, show s.A.res = [] from he]
      rfl
theorem Ca.resize_res {c : Ca} (h : c.Inv) (m : Nat) : (c.resize m).1.Inv ∧ (c.resize m).1.most = m ∧ (c.resize m).1.kind = c.kind ∧ Goes c.res (c.resize m).1.res (c.resize m).2 ∧ (c.resize m).2.length = c.res.length - m := by
  cases c with
  | pol n p =>
    obtain ⟨h1, h2, h3, h4⟩ := Pol.resize_res h.1 m
    refine ⟨⟨h1, ?_⟩, h2, rfl, h3, h4⟩
    rw [h2]
    have := h3.len (Pol.Inv.nodup h.1) h1.nodup
    omega
  | arc s =>
    obtain ⟨h1, h2, h3, h4⟩ := Arc.resize_res h m
    exact ⟨h1, h2, rfl, h3, h4⟩
  | ln s =>
    obtain ⟨h1, h2, h3, h4, h5⟩ := Ln.resize_res h m
    exact ⟨h1, h2, h5, h3, h4⟩
/-- Nobody comes to be a ghost where nobody goes. -/
theorem Ca.req_ghosts {c : Ca} (h : c.Inv) (t : Tape) (k : ByteArray) (hm : c.most ≠ 0) (ho : (c.req t k).2.2.out = false) (hg : c.ghosts = []) : (c.req t k).1.ghosts = [] := by
  cases c with
  | pol n p => exact Pol.req_ghosts p k ho hg
  | arc s => exact Arc.req_ghosts h k hm ho hg
  | ln s =>
    have hi : s.Inv := h
    obtain ⟨_, h2⟩ := Ln.req_inv (hi.tape t) hm k
    obtain ⟨g1, g2⟩ := List.append_eq_nil_iff.1 (show s.GA ++ s.GB = [] from hg)
    have ho' : (({ s with tape := t } : Ln).req k).2.out = false := ho
    show Ln.GA _ ++ Ln.GB _ = []
    obtain ⟨st, hst⟩ : ∃ st, (({ s with tape := t } : Ln).req k).2 = st := ⟨_, rfl⟩
    rw [hst] at h2 ho'
    have hreg : ({ s with tape := t } : Ln).regret k = { s with tape := t } := Ln.regret_not (hi.tape t) k ⟨by dsimp only; rw [g1]; simp, by dsimp only; rw [g2]; simp⟩
    cases h2 with
    | hit _ _ ga gb =>
      rw [ga, gb]
      exact hg
    | less _ _ _ ga gb =>
      rw [ga, gb, hreg]
      exact hg
    | full => cases ho'
theorem Ca.new_is (kind most lane : Nat) (hk : kind < 7) : (Ca.new kind most lane).Inv ∧ (Ca.new kind most lane).res = [] ∧ (Ca.new kind most lane).most = most ∧ (Ca.new kind most lane).kind = kind ∧ (Ca.new kind most lane).ghosts = [] := by
  have key : kind = 0 ∨ kind = 1 ∨ kind = 2 ∨ kind = 3 ∨ kind = 4 ∨ kind = 5 ∨ kind = 6 := by omega
  rcases key with rfl | rfl | rfl | rfl | rfl | rfl | rfl
  · exact ⟨⟨List.nodup_nil, Nat.zero_le _⟩, rfl, rfl, rfl, rfl⟩
  · exact ⟨⟨⟨List.nodup_nil, List.Pairwise.nil, (fun _ h => by cases h), Int.le_refl _, (fun _ h => by cases h)⟩, Nat.zero_le _⟩, rfl, rfl, rfl, rfl⟩
  · exact ⟨⟨⟨List.nodup_nil, List.Pairwise.nil, (fun _ h => by cases h), Int.le_refl _, (fun _ h => by cases h)⟩, Nat.zero_le _⟩, rfl, rfl, rfl, rfl⟩
  · exact ⟨⟨⟨List.nodup_nil, List.nodup_nil, List.nodup_nil, (fun _ h => by cases h), (fun _ h => by cases h), (fun _ h => by cases h), fun c => by simp [TMap.has]⟩, Nat.zero_le _⟩, rfl, rfl, rfl, rfl⟩
  · exact ⟨Arc.new_inv most, rfl, rfl, rfl, rfl⟩
  · exact ⟨Ln.new_inv 5 most [] lane, rfl, rfl, rfl, rfl⟩
  · exact ⟨Ln.new_inv 6 most [] lane, rfl, rfl, rfl, rfl⟩
/-! ### Sizes -/
def Ca.Fit (i : Nat) : Ca → Prop
  | .pol _ p => p.Fit i p.most ∧ p.most ≤ 16777216
  | .arc s => s.size ≤ i ∧ s.p ≤ s.most ∧ s.most ≤ 16777216
  | .ln s => Ln.Fit i { s with tape := [] } ∧ s.most ≤ 16777216
theorem Ln.Fit.setTape {i : Nat} {s : Ln} (h : s.Fit i) {t : Tape} (ht : tOk t) : Ln.Fit i { s with tape := t } := { h with tape := ht }
theorem tOk_nil : tOk [] := fun l hl => by cases hl
theorem Ca.Fit.mono {i j : Nat} {c : Ca} (h : c.Fit i) (hij : i ≤ j) : c.Fit j := by
  cases c with
  | pol n p => exact ⟨Pol.Fit.mono h.1 hij, h.2⟩
  | arc s => exact ⟨Nat.le_trans h.1 hij, h.2⟩
  | ln s => exact ⟨Ln.Fit.mono h.1 hij, h.2⟩
theorem Ca.Fit.most {i : Nat} {c : Ca} (h : c.Fit i) : c.most ≤ 16777216 := by
  cases c with
  | pol n p => exact h.2
  | arc s => exact h.2.2
  | ln s => exact h.2
theorem Ca.req_fit {i : Nat} {c : Ca} (h : c.Fit i) {t : Tape} (ht : tOk t) (k : ByteArray) : (c.req t k).1.Fit (i + 4) ∧ tOk (c.req t k).2.1 := by
  cases c with
  | pol n p =>
    have h1 := Pol.req_fit h.1 k
    refine ⟨⟨?_, ?_⟩, ht⟩
    · rw [Pol.req_most]; exact h1.mono (by omega)
    · rw [Pol.req_most]; exact h.2
  | arc s =>
    obtain ⟨a, b, d⟩ := Arc.req_keep s k h.2.1
    have h1 := h.1
    have h3 := h.2.2
    refine ⟨⟨?_, ?_, ?_⟩, ht⟩
    · omega
    · rw [a]; exact b
    · rw [a]; exact h3
  | ln s =>
    have h1 : Ln.Fit i { s with tape := t } := Ln.Fit.setTape (s := { s with tape := [] }) h.1 ht
    have h2 := Ln.req_fit h1 k
    refine ⟨⟨Ln.Fit.setTape h2 tOk_nil, ?_⟩, h2.tape⟩
    rw [(Ln.req_like { s with tape := t } k).most]
    exact h.2
theorem Ca.remove_fit {i : Nat} {c : Ca} (h : c.Fit i) (k : ByteArray) : (c.remove k).Fit i := by
  cases c with
  | pol n p => exact ⟨by rw [Pol.remove_most]; exact Pol.remove_fit h.1 k, by rw [Pol.remove_most]; exact h.2⟩
  | arc s =>
    obtain ⟨a, b, d⟩ := Arc.off_keep s k
    exact ⟨Nat.le_trans d h.1, by rw [a, b]; exact h.2.1, by rw [b]; exact h.2.2⟩
  | ln s => exact ⟨Ln.remove_fit (s := { s with tape := [] }) h.1 k, h.2⟩
theorem Ln.adopt_tape (s : Ln) (t : Tape) (k : ByteArray) : ({ s with tape := t } : Ln).adopt k = ({ (s.adopt k).1 with tape := t }, (s.adopt k).2) := by
  show (if s.has k = true ∨ s.most ≤ s.len then _ else _) = _
  unfold Ln.adopt
  split <;> rfl
theorem Ca.adopt_fit {i : Nat} {c : Ca} (h : c.Fit i) (k : ByteArray) : (c.adopt k).1.Fit (i + 1) := by
  cases c with
  | pol n p => exact ⟨by rw [Pol.adopt_most]; exact Pol.adopt_fit h.1 k, by rw [Pol.adopt_most]; exact h.2⟩
  | arc s =>
    obtain ⟨a, b, d⟩ := Arc.adopt_keep s k
    have h1 := h.1
    exact ⟨by omega, by rw [a, b]; exact h.2.1, by rw [b]; exact h.2.2⟩
  | ln s =>
    have := Ln.adopt_fit (s := { s with tape := [] }) h.1 k
    rw [Ln.adopt_tape] at this
    exact ⟨this, by rw [(Ln.adopt_like s k).most]; exact h.2⟩
theorem Arc.drop_keep (s : Arc) : s.drop.p = s.p ∧ s.drop.most = s.most ∧ s.drop.size ≤ s.size := by
  unfold Arc.drop
  split
  · exact Arc.off_keep s _
  · exact ⟨rfl, rfl, Nat.le_refl _⟩
theorem Ln.drop_tape (s : Ln) (t : Tape) : ({ s with tape := t } : Ln).drop = { s.drop with tape := t } := by
  show (if s.victim.2 then _ else _) = _
  unfold Ln.drop
  split <;> rfl
theorem Ca.drop_fit {i : Nat} {c : Ca} (h : c.Fit i) : c.drop.Fit i := by
  cases c with
  | pol n p =>
    have h1 := Pol.drop_fit h.1
    have h2 := h1.most
    exact ⟨by rw [h2]; exact h1, by rw [h2]; exact h.2⟩
  | arc s =>
    obtain ⟨a, b, d⟩ := Arc.drop_keep s
    exact ⟨Nat.le_trans d h.1, by rw [a, b]; exact h.2.1, by rw [b]; exact h.2.2⟩
  | ln s =>
    have := Ln.drop_fit (s := { s with tape := [] }) h.1
    rw [Ln.drop_tape] at this
    exact ⟨this, by rw [(Ln.drop_like s).most]; exact h.2⟩
theorem Arc.yieldN_keep : ∀ (j : Nat) (s : Arc), (Arc.yieldN j s).1.p = s.p ∧ (Arc.yieldN j s).1.most = s.most ∧ (Arc.yieldN j s).1.size ≤ s.size
  | 0, _ => ⟨rfl, rfl, Nat.le_refl _⟩
  | j + 1, s => by
    obtain ⟨a, b, d⟩ := Arc.yield_keep s false
    obtain ⟨a1, b1, d1⟩ := Arc.yieldN_keep j (s.yield false).1
    exact ⟨a1.trans a, b1.trans b, Nat.le_trans d1 d⟩
theorem Ln.dropN_tape (t : Tape) : ∀ (j : Nat) (s : Ln), Ln.dropN j ({ s with tape := t } : Ln) = ({ (Ln.dropN j s).1 with tape := t }, (Ln.dropN j s).2)
  | 0, _ => rfl
  | j + 1, s => by
    show ((Ln.dropN j (Ln.drop { s with tape := t })).1, _ :: (Ln.dropN j (Ln.drop { s with tape := t })).2) = _
    rw [Ln.drop_tape, Ln.dropN_tape t j s.drop]
    rfl
theorem Ln.resize_tape (s : Ln) (t : Tape) (m : Nat) : ({ s with tape := t } : Ln).resize m = ({ (s.resize m).1 with tape := t }, (s.resize m).2) := by
  have e : Ln.dropN (({ s with tape := t } : Ln).len - m) { s with tape := t } = ({ (Ln.dropN (s.len - m) s).1 with tape := t }, (Ln.dropN (s.len - m) s).2) := Ln.dropN_tape t _ s
  unfold Ln.resize
  dsimp only
  rw [e]
  rfl
theorem Ca.resize_fit {i : Nat} {c : Ca} (h : c.Fit i) {m : Nat} (hm : m ≤ 16777216) : (c.resize m).1.Fit i := by
  cases c with
  | pol n p =>
    have h1 := Pol.resize_fit h.1 m
    have h2 := h1.most
    exact ⟨by rw [h2]; exact h1, by rw [h2]; exact hm⟩
  | arc s =>
    obtain ⟨s1, hs1⟩ : ∃ s1 : Arc, { s with most := m, p := min s.p m } = s1 := ⟨_, rfl⟩
    have e : (s.resize m).1 = (Arc.yieldN (s1.len - m) s1).1.trim := by rw [← hs1]; rfl
    obtain ⟨a, b, d⟩ := Arc.yieldN_keep (s1.len - m) s1
    obtain ⟨r, hr⟩ : ∃ r, (Arc.yieldN (s1.len - m) s1).1 = r := ⟨_, rfl⟩
    rw [hr] at a b d
    have h1 := h.1
    have e1 : s1.size = s.size := by rw [← hs1]; rfl
    have e2 : s1.p ≤ m := by rw [← hs1]; exact Nat.min_le_right _ _
    have e3 : s1.most = m := by rw [← hs1]
    show (s.resize m).1.size ≤ i ∧ (s.resize m).1.p ≤ (s.resize m).1.most ∧ (s.resize m).1.most ≤ 16777216
    rw [e, hr]
    refine ⟨?_, ?_, ?_⟩
    · have : r.trim.size ≤ r.size := by
        unfold Arc.trim Arc.size
        dsimp only
        rw [List.length_take, List.length_take]
        omega
      omega
    · show r.p ≤ r.most
      rw [a, b, e3]; exact e2
    · show r.most ≤ 16777216
      rw [b, e3]; exact hm
  | ln s =>
    have := Ln.resize_fit (s := { s with tape := [] }) h.1 m
    rw [Ln.resize_tape] at this
    exact ⟨this, by
      have : (s.resize m).1.most = m := rfl
      rw [this]; exact hm⟩
theorem Ca.new_fit (kind most lane : Nat) (hk : kind < 7) (hm : most ≤ 16777216) : (Ca.new kind most lane).Fit 0 := by
  have key : kind = 0 ∨ kind = 1 ∨ kind = 2 ∨ kind = 3 ∨ kind = 4 ∨ kind = 5 ∨ kind = 6 := by omega
  have z : (0 : Int) ≤ ((0 : Nat) : Int) := by omega
  rcases key with rfl | rfl | rfl | rfl | rfl | rfl | rfl
  · exact ⟨⟨Nat.le_refl _, rfl⟩, hm⟩
  · exact ⟨⟨Nat.le_refl _, z, rfl⟩, hm⟩
  · exact ⟨⟨Nat.le_refl _, z, rfl⟩, hm⟩
  · exact ⟨⟨Nat.le_refl _, rfl, Nat.div_le_self _ _⟩, hm⟩
  · exact ⟨Nat.le_refl _, Nat.zero_le _, hm⟩
  · exact ⟨Ln.new_fit 5 most [] lane tOk_nil, hm⟩
  · exact ⟨Ln.new_fit 6 most [] lane tOk_nil, hm⟩
theorem Ca.Fit.len {i : Nat} {c : Ca} (h : c.Fit i) : c.len ≤ i := by
  cases c with
  | pol n p => exact Pol.len_fit h.1
  | arc s => have := h.1; unfold Arc.size at this; show s.t1.length + s.t2.length ≤ i; omega
  | ln s => exact Pol.len_fit (Ln.Fit.a (s := { s with tape := [] }) h.1)
end Go.Proofs.YtbbdimlpofjlfaaGreatDoor
