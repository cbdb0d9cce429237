/- Which pictures may be: with no program in sight. -/
import Derived.Test.YtggeppmiifkikaaDoorSnapFew
namespace Go.Proofs.YtggeppmiifkikaaDoor
open Go Go.RowKit Go.Shelf

structure OkP (p : Pic) : Prop where
  cfg : cfgC p.c = 0
  kind : 0 ≤ p.kind ∧ p.kind ≤ 6
  now : 0 ≤ p.now ∧ p.now ≤ 1099511627776
  len : (p.items.length : Int) ≤ p.c.size
  item : ∀ x ∈ p.items, itC x = 0
  over : ∀ x ∈ p.items, overI p.now x = false
  twice : twiceN p.items p.items.length = false
theorem okP_of {p : Pic} (he : picE p = .nil) : OkP p := by
  have hc : cfgC p.c = 0 := by
    by_cases hc : cfgC p.c = 0
    · exact hc
    · rw [picE_cfg hc] at he; cases he
  by_cases h1 : 0 ≤ p.kind ∧ p.kind ≤ 6
  · by_cases h2 : (0 ≤ p.now ∧ p.now ≤ 1099511627776) ∧ (p.items.length : Int) ≤ p.c.size
    · rw [picE_rest hc h1 h2] at he
      have hf : (firstE p.items).isNil = true := by
        cases hf : (firstE p.items).isNil
        · unfold restE at he
          rw [if_pos hf] at he
          cases hg : firstE p.items with
          | nil => rw [hg] at hf; cases hf
          | no n => rw [hg] at he; cases he
          | fault o k e => rw [hg] at he; cases he
        · rfl
      have hi := firstE_nil hf
      have h0 : ∀ (i : Nat) (y : It), p.items[i]? = some y → itC y = 0 := fun i y hy => hi y (List.mem_of_getElem? hy)
      have ho : p.items.any (overI p.now) = false := by
        cases ho : p.items.any (overI p.now)
        · rfl
        · rw [rest_over h0 ho] at he; cases he
      have ht : twiceN p.items p.items.length = false := by
        cases ht : twiceN p.items p.items.length
        · rfl
        · rw [rest_twice h0 ho ht] at he; cases he
      exact ⟨hc, h1, h2.1, h2.2, hi, fun x hx => by simpa using List.any_eq_false.1 ho x hx, ht⟩
    · rw [picE_now hc h1 h2] at he; cases he
  · rw [picE_kind hc h1] at he; cases he
theorem OkP.nil {p : Pic} (h : OkP p) : picE p = .nil := by
  rw [picE_rest h.cfg h.kind ⟨h.now, h.len⟩]
  exact rest_fine (fun i y hy => h.item y (List.mem_of_getElem? hy)) (List.any_eq_false.2 fun x hx => by rw [h.over x hx]; exact Bool.false_ne_true) h.twice
theorem twiceN_le {l : List It} : ∀ {n m : Nat}, m ≤ n → twiceN l n = false → twiceN l m = false
  | 0, m, h, ht => by
    obtain rfl : m = 0 := by omega
    exact ht
  | n + 1, m, h, ht => by
    by_cases hm : m = n + 1
    · subst hm; exact ht
    · refine twiceN_le (n := n) (by omega) ?_
      rw [twiceN, Bool.or_eq_false_iff] at ht
      exact ht.1
theorem twiceN_take {l : List It} (k : Nat) : ∀ m, m ≤ k → twiceN (l.take k) m = twiceN l m
  | 0, _ => rfl
  | m + 1, h => by
    rw [twiceN, twiceN, twiceN_take k m (by omega), List.getElem?_take_of_lt (by omega), List.take_take, Nat.min_eq_left (by omega)]
theorem OkP.fewer {p : Pic} (h : OkP p) (m : Nat) : OkP ⟨p.c, p.kind, p.now, p.items.take m⟩ := by
  refine ⟨h.cfg, h.kind, h.now, ?_, fun x hx => h.item x (List.mem_of_mem_take hx), fun x hx => h.over x (List.mem_of_mem_take hx), ?_⟩
  · have := h.len
    dsimp only
    rw [List.length_take]
    omega
  · dsimp only
    rw [List.length_take, twiceN_take _ _ (Nat.min_le_left _ _)]
    exact twiceN_le (Nat.min_le_right _ _) h.twice
theorem OkP.earlier {p : Pic} (h : OkP p) (now : Int) (h0 : 0 ≤ now) : OkP ⟨p.c, p.kind, min now p.now, p.items⟩ := by
  refine ⟨h.cfg, h.kind, ?_, h.len, h.item, fun x hx => ?_, h.twice⟩
  · have := h.now
    dsimp only
    omega
  · have := h.over x hx
    unfold overI at this ⊢
    dsimp only
    rw [Bool.and_eq_false_iff, decide_eq_false_iff_not, decide_eq_false_iff_not] at this ⊢
    omega
theorem OkP.sized {p : Pic} (h : OkP p) (size : Int) (h0 : 0 ≤ size) (h1 : size ≤ 16777216) (hl : (p.items.length : Int) ≤ size) : OkP ⟨⟨size, p.c.shift, p.c.window, p.c.margin, p.c.hold, p.c.quota, p.c.pin⟩, p.kind, p.now, p.items⟩ := by
  refine ⟨?_, h.kind, h.now, hl, h.item, h.over, h.twice⟩
  have hc := h.cfg
  unfold cfgC cfgOk inR at hc ⊢
  dsimp only at hc ⊢
  split at hc
  · cases hc
  · rename_i hp
    split at hc
    · cases hc
    · rename_i ho
      rw [if_neg hp, if_neg]
      intro hn
      exact hn ⟨⟨h0, h1⟩, (Classical.not_not.1 ho).2⟩
theorem OkP.tooSmall {p : Pic} (size : Int) (hl : ¬ (p.items.length : Int) ≤ size) : (picE ⟨⟨size, p.c.shift, p.c.window, p.c.margin, p.c.hold, p.c.quota, p.c.pin⟩, p.kind, p.now, p.items⟩).isNil = false := by
  cases h : (picE ⟨⟨size, p.c.shift, p.c.window, p.c.margin, p.c.hold, p.c.quota, p.c.pin⟩, p.kind, p.now, p.items⟩).isNil
  · rfl
  · exact absurd (okP_of (picE_isNil h)).len hl
end Go.Proofs.YtggeppmiifkikaaDoor
