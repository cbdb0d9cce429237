/- append of a row of keys to a row of keys. -/
import Derived.Test.YtbbdimlpofjlfaaGreatDoorQLs2
import Derived.Laws.OwnMore
namespace Go.Proofs.YtbbdimlpofjlfaaGreatDoor
open Go Go.RowKit

theorem strs_length (l : List ByteArray) : (strs l).length = l.length := by unfold strs; rw [List.length_map]
theorem strs_append (l m : List ByteArray) : strs (l ++ m) = strs l ++ strs m := by unfold strs; rw [List.map_append]
theorem strs_one {l : List ByteArray} : ∀ u ∈ strs l, u.oneCell' = true := fun u hu => by
  unfold strs at hu
  obtain ⟨x, _, rfl⟩ := List.mem_map.1 hu
  rfl
theorem Holds.appendStrs {g w : World} {v1 v2 : Value} {l1 l2 : List ByteArray} {F : List SProp} (h : Holds g w (OwnStrs v1 l1 :: OwnStrs v2 l2 :: F)) (hl : l1.length + l2.length ≤ 2000000) (ty : TypeId) :
    ∃ v' w', (Builtin.append_ #[23, 23] ty #[v1, v2]).run Tryz.prog w = .ok v' w' ∧ Holds g w' (OwnStrs v' (l1 ++ l2) :: F) := by
  unfold OwnStrs at h ⊢
  obtain ⟨ii, hi, hz0, hz1, hz2⟩ := info_parts infoStr
  rcases (Holds.p1 h).rowShape with ⟨rfl, h0, _⟩ | ⟨q, cap, rfl⟩
  · have hl2 : l2 = [] := List.length_eq_zero_iff.1 h0
    subst hl2
    rw [List.append_nil]
    exact ⟨v1, w, run_append_owned_none w g.heap.size 23 ty 9 ii 1 Tryz.underlying23 hi _ _ _ h.ownsRow, (Holds.p1 h).drop⟩
  · obtain ⟨v', w', hr, h2, h3, h4, h5⟩ := run_append_own_at (P := Tryz.prog) w g.heap.size 23 ty 9 ii (.string ⟨#[]⟩) 1 16 Tryz.underlying23 hi hz0 hz1 hz2 rfl (by decide) v1 l1.length (strs l1) h.ownsRow ⟨q, 0, none⟩ l2.length cap (strs l2) (by rw [strs_length, Nat.mul_one]) (fun j u hu => by
      have hc := (Holds.p1 h).rowCell hu
      have hadd : (⟨q, 0, none⟩ : Addr).add j = ⟨q, j, none⟩ := by unfold Addr.add; split <;> simp_all
      rw [hadd]
      exact hc) strs_one (by simp only [maxLen]; omega) (by omega) h.size
    refine ⟨v', w', hr, ?_⟩
    have H := h.grown (v' := v') (n' := l1.length + l2.length) (xs' := strs l1 ++ strs l2) h2 h3 (by rcases h5 with h5 | h5 <;> first | exact .inl h5 | exact .inr ⟨_, h5, Nat.le_refl _⟩)
    rw [← strs_append, ← List.length_append] at H
    exact H.p1.drop
theorem wpList_append_strs {g w : World} {v1 v2 : Value} {l1 l2 : List ByteArray} {F : List SProp} {ops : Array Oper} {rest : List Oper} {o : Oper} {a : Act} {Q : Exit → Act → World → Prop} (hg : o.guard = none) (s x : Operand)
    (hop : o.op = .call { callee := .builtin .append, args := #[s, x], argTypes := #[23, 23] })
    (h : Holds g w (OwnStrs v1 l1 :: OwnStrs v2 l2 :: F)) (hl : l1.length + l2.length ≤ 2000000) (hs : a.eval s = v1) (hx : a.eval x = v2)
    (hK : ∀ v' w', Holds g w' (OwnStrs v' (l1 ++ l2) :: F) → wpList Tryz.prog ops Q rest (a.put o.dst v') w') : wpList Tryz.prog ops Q (o :: rest) a w := by
  refine wpList_plain hg fun K hK2 => ?_
  obtain ⟨v', w', hr, h2⟩ := h.appendStrs hl o.type
  unfold Oper.wp execOp
  simp only [hop, resolve, invoke, builtin, Sem.run_bind, Sem.run_pure, Result.andThen_ok, List.map_toArray, List.map_cons, List.map_nil, hs, hx, hr]
  exact hK2 _ _ (hK v' w' h2)
theorem step_append_strs {g w : World} {v1 v2 : Value} {l1 l2 : List ByteArray} {F : List SProp} {ops : Array Oper} {o : Oper} {a : Act} {K : Act → World → Prop} {Q : Exit → Act → World → Prop} {E : Prop} (hg : o.guard = none) (s x : Operand)
    (hop : o.op = .call { callee := .builtin .append, args := #[s, x], argTypes := #[23, 23] })
    (h : Holds g w (OwnStrs v1 l1 :: OwnStrs v2 l2 :: F)) (hl : l1.length + l2.length ≤ 2000000) (hs : a.eval s = v1) (hx : a.eval x = v2)
    (hK : ∀ v' w', Holds g w' (OwnStrs v' (l1 ++ l2) :: F) → K (a.put o.dst v') w') : if Region.wanted o (yielded ops a.tmps) = true then Oper.wp Tryz.prog o a w K Q else E := by
  have hw : Region.wanted o (yielded ops a.tmps) = true := by simp [Region.wanted, hg]
  rw [if_pos hw]
  obtain ⟨v', w', hr, h2⟩ := h.appendStrs hl o.type
  unfold Oper.wp
  simp [execOp, hop, resolve, invoke, builtin, hs, hx, hr, Result.andThen]
  exact hK v' w' h2
end Go.Proofs.YtbbdimlpofjlfaaGreatDoor
