/- The document's numbers of faults, with no program in sight. -/
import Derived.Test.YtggeppmiifkikaaDoorSnapDec
namespace Go.Proofs.YtggeppmiifkikaaDoor
open Go Go.RowKit Go.Shelf

/-- The innermost number of a fault; 0: there is none. -/
def codeE : EV → Int
  | .nil => 0
  | .no n => n
  | .fault _ _ e => codeE e
def codeP (p : Pic) : Int := codeE (picE p)
theorem codeE_cfg (c : Cfg) : codeE (cfgE c) = cfgC c := by
  unfold cfgE
  split
  · rename_i h; rw [h]; rfl
  · rfl
theorem code_cfg {p : Pic} (h : cfgC p.c ≠ 0) : codeP p = cfgC p.c := by
  rw [codeP, picE_cfg h, codeE, codeE_cfg]
theorem code_kind {p : Pic} (h : cfgC p.c = 0) (h1 : ¬ (0 ≤ p.kind ∧ p.kind ≤ 6)) : codeP p = 7 := by
  rw [codeP, picE_kind h h1]; rfl
theorem code_now {p : Pic} (h : cfgC p.c = 0) (h1 : 0 ≤ p.kind ∧ p.kind ≤ 6) (h2 : ¬ ((0 ≤ p.now ∧ p.now ≤ 1099511627776) ∧ (p.items.length : Int) ≤ p.c.size)) : codeP p = 1 := by
  rw [codeP, picE_now h h1 h2]; rfl
structure RestP (p : Pic) : Prop where
  cfg : cfgC p.c = 0
  kind : 0 ≤ p.kind ∧ p.kind ≤ 6
  now : 0 ≤ p.now ∧ p.now ≤ 1099511627776
  len : (p.items.length : Int) ≤ p.c.size
theorem RestP.e {p : Pic} (h : RestP p) : picE p = wrapE (restE p) := picE_rest h.cfg h.kind ⟨h.now, h.len⟩
theorem code_item {p : Pic} (h : RestP p) {j : Nat} {x : It} (hx : p.items[j]? = some x) (h0 : ∀ i y, i < j → p.items[i]? = some y → itC y = 0) (hc : itC x ≠ 0) : codeP p = itC x := by
  rw [codeP, h.e, rest_at hx h0 hc, codeE]
  unfold itE
  rw [if_neg hc]
  rfl
theorem code_over {p : Pic} (h : RestP p) (h0 : ∀ (i : Nat) (y : It), p.items[i]? = some y → itC y = 0) (ho : p.items.any (overI p.now) = true) : codeP p = 11 := by
  rw [codeP, h.e, rest_over h0 ho]; rfl
theorem code_twice {p : Pic} (h : RestP p) (h0 : ∀ (i : Nat) (y : It), p.items[i]? = some y → itC y = 0) (ho : p.items.any (overI p.now) = false) (ht : twiceN p.items p.items.length = true) : codeP p = 10 := by
  rw [codeP, h.e, rest_twice h0 ho ht]; rfl
theorem code_fine {p : Pic} (h : RestP p) (h0 : ∀ (i : Nat) (y : It), p.items[i]? = some y → itC y = 0) (ho : p.items.any (overI p.now) = false) (ht : twiceN p.items p.items.length = false) : codeP p = 0 := by
  rw [codeP, h.e, rest_fine h0 ho ht]; rfl
theorem not_in {n a b : Int} (h : ¬ (a ≤ n ∧ n ≤ b)) : n < a ∨ (¬ n < a ∧ b < n) := by omega
theorem is_in {n a b : Int} (h : a ≤ n ∧ n ≤ b) : ¬ n < a ∧ ¬ b < n := by omega
/-- An error of a picture, or of bytes: what Wraps says of it with its own number. -/
theorem isErr_code : ∀ {e : EV}, e.sound → codeE e ≠ 0 → isErr e (codeE e) = true
  | .no n, _, _ => by simp [codeE, isErr]
  | .fault _ _ e, hs, h => by
    rw [codeE] at h ⊢
    rw [isErr]
    exact isErr_code hs h
/-- No error, or a fault that ends in a number other than 0. -/
def EvG (e : EV) : Prop := e = .nil ∨ (e.sound ∧ codeE e ≠ 0)
theorem EvG.first : ∀ l : List It, EvG (firstE l)
  | [] => .inl rfl
  | x :: l => by
    rw [firstE]
    split
    · exact EvG.first l
    · rename_i h
      refine .inr ?_
      unfold itE
      rw [if_neg h]
      exact ⟨trivial, h⟩
theorem EvG.cfg (c : Cfg) : EvG (cfgE c) := by
  unfold cfgE
  split
  · exact .inl rfl
  · rename_i h
    exact .inr ⟨trivial, h⟩
theorem EvG.rest (p : Pic) : EvG (restE p) := by
  unfold restE
  split
  · exact EvG.first _
  · split
    · exact .inr ⟨trivial, by decide⟩
    · split
      · exact .inr ⟨trivial, by decide⟩
      · exact .inl rfl
theorem EvG.pic0 (p : Pic) : EvG (picE0 p) := by
  unfold picE0
  split
  · exact EvG.cfg _
  · split
    · exact .inr ⟨trivial, by decide⟩
    · split
      · exact .inr ⟨trivial, by decide⟩
      · exact EvG.rest p
/-- No error, or a fault of that operation, of no key, that ends in a number other than 0. -/
def EvOf (op : ByteArray) (e : EV) : Prop := e = .nil ∨ ∃ e', e = .fault op ⟨#[]⟩ e' ∧ e'.sound ∧ codeE e' ≠ 0
theorem EvOf.cfg (c : Cfg) : EvOf tConfig (cfgE c) := by
  unfold cfgE
  split
  · exact .inl rfl
  · rename_i h
    exact .inr ⟨_, rfl, trivial, h⟩
theorem EvOf.wrap {e : EV} (h : EvG e) : EvOf tSnap (wrapE e) := by
  rcases h with rfl | ⟨h1, h2⟩
  · exact .inl rfl
  · cases e with
    | nil => exact h1.elim
    | no n => exact .inr ⟨_, rfl, h1, h2⟩
    | fault o k e => exact .inr ⟨_, rfl, h1, h2⟩
theorem EvOf.pic (p : Pic) : EvOf tSnap (picE p) := EvOf.wrap (EvG.pic0 p)
theorem EvOf.parse {L : List UInt8} {e : EV} (h : parseM L = .err e) : EvOf tParse e := by
  unfold parseM at h
  split at h
  · cases h; exact .inr ⟨_, rfl, trivial, by decide⟩
  · split at h
    · cases h; exact .inr ⟨_, rfl, trivial, by decide⟩
    · split at h
      · cases h; exact .inr ⟨_, rfl, trivial, by decide⟩
      · rename_i p hp
        split at h
        · cases h
        · rename_i hn
          cases h
          rcases EvOf.pic p with he | ⟨e', he, h1, h2⟩
          · rw [he] at hn; exact absurd rfl hn
          · exact .inr ⟨_, rfl, by rw [he]; exact h1, by rw [he]; exact h2⟩
theorem Wraps_code (op : ByteArray) (e : EV) (v : Value) (n : Int) (w : World) (hg : Env w) (hn : codeE e = n) (he : ErrAt w e v) (ho : EvOf op e) :
    Calls Tryd.prog 16 #[v, .string op, .string ⟨#[]⟩, .int .i64 n] w fun r w' => r = .returned (.bool true) ∧ Keep w w' := by
  subst hn
  rcases ho with rfl | ⟨e', rfl, h1, h2⟩
  · refine (Wraps_zero .nil v op ⟨#[]⟩ w he).mono ?_
    rintro r w' ⟨rfl, rfl⟩
    exact ⟨rfl, Keep.refl _⟩
  · refine (Wraps_fault op ⟨#[]⟩ op ⟨#[]⟩ e' v (codeE e') w hg h2 he h1).mono ?_
    rintro r w' ⟨rfl, hk⟩
    refine ⟨?_, hk⟩
    unfold wrapsB
    rw [if_neg h2]
    simp [isErr_code h1 h2]
end Go.Proofs.YtggeppmiifkikaaDoor
