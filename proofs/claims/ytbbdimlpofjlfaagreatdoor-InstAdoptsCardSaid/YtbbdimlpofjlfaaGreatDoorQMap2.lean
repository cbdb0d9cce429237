/- What a map with texts as keys holds: no program in sight. -/
import Derived.Test.YtbbdimlpofjlfaaGreatDoorQMap
import Derived.Test.YtbbdimlpofjlfaaGreatDoorQQuiet
namespace Go.Proofs.YtbbdimlpofjlfaaGreatDoor
open Go Go.RowKit

theorem as_has_put (l : Assoc) (k c : ByteArray) (v : Value) : (l.put k v).has c = (l.has c || decide (k = c)) := by
  unfold Assoc.put
  by_cases h : l.has k = true
  · rw [if_pos h]
    unfold Assoc.has at h ⊢
    rw [List.any_map]
    by_cases hk : k = c
    · subst hk
      rw [h]
      simp only [decide_true, Bool.or_true, List.any_eq_true] at h ⊢
      obtain ⟨p, hp, h2⟩ := h
      exact ⟨p, hp, by simp at h2; simp [h2]⟩
    · rw [decide_eq_false hk, Bool.or_false]
      congr 1
      funext p
      by_cases hp : p.1 = k
      · simp [hp, hk]
      · simp [hp]
  · rw [if_neg h]
    simp [Assoc.has]
theorem as_get_cons (p : ByteArray × Value) (l : Assoc) (c : ByteArray) : Assoc.get (p :: l) c = if p.1 = c then some p.2 else Assoc.get l c := by
  unfold Assoc.get
  rw [List.find?_cons]
  by_cases h : p.1 = c <;> simp [h]
theorem as_get_append (l m : Assoc) (c : ByteArray) : Assoc.get (l ++ m) c = match Assoc.get l c with | some v => some v | none => Assoc.get m c := by
  induction l with
  | nil => rfl
  | cons p l ih => rw [List.cons_append, as_get_cons, as_get_cons, ih]; split <;> rfl
theorem as_get_none {l : Assoc} {c : ByteArray} (h : l.has c = false) : l.get c = none := by
  have := Assoc.get_has l c
  rw [h] at this
  simpa using this
theorem as_get_put (l : Assoc) (k c : ByteArray) (v : Value) : (l.put k v).get c = if k = c then some v else l.get c := by
  unfold Assoc.put
  by_cases h : l.has k = true
  · rw [if_pos h]
    induction l with
    | nil => simp [Assoc.has] at h
    | cons p l ih =>
      rw [List.map_cons, as_get_cons, as_get_cons]
      have hne : k ≠ c → Assoc.get (l.map fun p => if p.1 = k then (k, v) else p) c = Assoc.get l c := fun hk => by
        clear ih h
        induction l with
        | nil => rfl
        | cons q l ih =>
          rw [List.map_cons, as_get_cons, as_get_cons, ih]
          by_cases hq : q.1 = k
          · rw [if_pos hq, if_neg hk, if_neg (fun e => hk (hq.symm.trans e))]
          · rw [if_neg hq]
      by_cases hk : k = c
      · rw [if_pos hk]
        by_cases hp : p.1 = k
        · rw [if_pos hp, if_pos hk]
        · rw [if_neg hp, if_neg (fun e => hp (e.trans hk.symm)), ih (by simpa [Assoc.has, hp] using h), if_pos hk]
      · rw [if_neg hk, hne hk]
        by_cases hp : p.1 = k
        · rw [if_pos hp, if_neg hk, if_neg (fun e => hk (hp.symm.trans e))]
        · rw [if_neg hp]
  · rw [if_neg h, as_get_append]
    by_cases hk : k = c
    · subst hk
      rw [as_get_none (by simpa using h), as_get_cons, if_pos rfl, if_pos rfl]
    · rw [as_get_cons, if_neg hk, if_neg hk]
      cases Assoc.get l c <;> rfl
theorem as_split {l : Assoc} {k : ByteArray} (h : l.has k = true) : ∃ a u c, l = a ++ (k, u) :: c ∧ ∀ p ∈ a, p.1 ≠ k := by
  induction l with
  | nil => simp [Assoc.has] at h
  | cons p l ih =>
    by_cases hp : p.1 = k
    · obtain ⟨p1, p2⟩ := p
      simp only at hp
      subst hp
      exact ⟨[], p2, l, rfl, by simp⟩
    · obtain ⟨a, u, c, rfl, h2⟩ := ih (by simpa [Assoc.has, hp] using h)
      refine ⟨p :: a, u, c, rfl, ?_⟩
      intro q hq
      rcases List.mem_cons.1 hq with rfl | hq
      · exact hp
      · exact h2 q hq
theorem as_has_del (l : Assoc) (k c : ByteArray) : (l.del k).has c = (l.has c && !decide (k = c)) := by
  unfold Assoc.del Assoc.has
  rw [List.any_filter]
  induction l with
  | nil => rfl
  | cons p l ih =>
    rw [List.any_cons, List.any_cons, ih]
    by_cases h1 : p.1 = k
    · by_cases h2 : k = c
      · subst h2; simp [h1]
      · simp [h1, h2]
    · by_cases h2 : k = c
      · subst h2; simp [h1]
      · simp [h1, h2]
theorem as_get_del (l : Assoc) (k c : ByteArray) : (l.del k).get c = if k = c then none else l.get c := by
  by_cases h : k = c
  · rw [if_pos h]
    exact as_get_none (by rw [as_has_del, decide_eq_true h]; simp)
  · rw [if_neg h]
    induction l with
    | nil => rfl
    | cons p l ih =>
      unfold Assoc.del at ih ⊢
      rw [List.filter_cons]
      by_cases h1 : p.1 = k
      · rw [if_neg (by simp [h1]), ih, as_get_cons, if_neg (fun e => h (h1.symm.trans e))]
      · rw [if_pos (by simp [h1]), as_get_cons, as_get_cons, ih]
def Assoc.keys (l : Assoc) : List ByteArray := l.map (·.1)
theorem as_has_keys (l : Assoc) (k : ByteArray) : l.has k = true ↔ k ∈ l.keys := by
  unfold Assoc.has Assoc.keys
  simp
theorem as_len_put (l : Assoc) (k : ByteArray) (v : Value) (h : l.has k = false) : (l.put k v).length = l.length + 1 := by
  unfold Assoc.put
  rw [if_neg (by rw [h]; exact Bool.false_ne_true)]
  simp
theorem as_len_put' (l : Assoc) (k : ByteArray) (v : Value) (h : l.has k = true) : (l.put k v).length = l.length := by
  unfold Assoc.put
  rw [if_pos h]
  simp
theorem as_len_del (l : Assoc) (k : ByteArray) (hd : (l.map (·.1)).Nodup) (h : l.has k = true) : (l.del k).length + 1 = l.length := by
  obtain ⟨a, u, c, rfl, ha⟩ := as_split h
  rw [del_split ha (nodup_split hd)]
  simp
  omega
end Go.Proofs.YtbbdimlpofjlfaaGreatDoor
/- More steps at maps with texts as keys that a call owns. No program is named here. -/
namespace Go.Proofs.YtbbdimlpofjlfaaGreatDoor
open Go Go.RowKit

section
variable {P : Program} {g w : World} {t kt et : TypeId} {b : Nat} {l : Assoc} {F : List SProp} {ops : Array Oper} {rest : List Oper} {o : Oper} {a : Act} {Q : Exit → Act → World → Prop} {K : Act → World → Prop} {E : Prop}
theorem wpList_delete_map (hg : o.guard = none) (m x : Operand) (t2 : TypeId) (hop : o.op = Op.call { callee := Callee.builtin Builtin.delete, args := #[m, x], argTypes := #[t, t2] }) (ht : P.underlying t = some (.map kt et)) (hk : P.underlying kt = some .string)
    (h : Holds g w (OwnMap b l :: F)) (k : ByteArray) (hm : a.eval m = .map (some b)) (hx : a.eval x = .string k)
    (hK : ∀ w', Holds g w' (OwnMap b (l.del k) :: F) → wpList P ops Q rest (a.put o.dst (.tuple #[])) w') : wpList P ops Q (o :: rest) a w := by
  refine wpList_plain hg fun K' hK' => ?_
  obtain ⟨es, clock, hi, h⟩ := h.mapAt
  obtain ⟨es', clock', hrun, hi'⟩ := run_delete_string ht hk h.block hi k t2 o.type
  unfold Oper.wp
  simp [execOp, hop, resolve, invoke, builtin, hm, hx, hrun, Result.andThen]
  exact hK' _ _ (hK _ (h.setObj.toMap hi'))
theorem step_delete_map (hg : o.guard = none) (m x : Operand) (t2 : TypeId) (hop : o.op = Op.call { callee := Callee.builtin Builtin.delete, args := #[m, x], argTypes := #[t, t2] }) (ht : P.underlying t = some (.map kt et)) (hk : P.underlying kt = some .string)
    (h : Holds g w (OwnMap b l :: F)) (k : ByteArray) (hm : a.eval m = .map (some b)) (hx : a.eval x = .string k)
    (hK : ∀ w', Holds g w' (OwnMap b (l.del k) :: F) → K (a.put o.dst (.tuple #[])) w') : if Region.wanted o (yielded ops a.tmps) = true then Oper.wp P o a w K Q else E := by
  have hw : Region.wanted o (yielded ops a.tmps) = true := by simp [Region.wanted, hg]
  rw [if_pos hw]
  obtain ⟨es, clock, hi, h⟩ := h.mapAt
  obtain ⟨es', clock', hrun, hi'⟩ := run_delete_string ht hk h.block hi k t2 o.type
  unfold Oper.wp
  simp [execOp, hop, resolve, invoke, builtin, hm, hx, hrun, Result.andThen]
  exact hK _ (h.setObj.toMap hi')
theorem step_update_map (hg : o.guard = none) (m x v : Operand) (hop : o.op = Op.mapUpdate t m x v) (ht : P.underlying t = some (.map kt et)) (hk : P.underlying kt = some .string)
    (h : Holds g w (OwnMap b l :: F)) (k : ByteArray) (u : Value) (hm : a.eval m = .map (some b)) (hx : a.eval x = .string k) (hv : a.eval v = u)
    (hK : ∀ w', Holds g w' (OwnMap b (l.put k u) :: F) → K (a.put o.dst undef) w') : if Region.wanted o (yielded ops a.tmps) = true then Oper.wp P o a w K Q else E := by
  have hw : Region.wanted o (yielded ops a.tmps) = true := by simp [Region.wanted, hg]
  rw [if_pos hw]
  obtain ⟨es, clock, hi, h⟩ := h.mapAt
  obtain ⟨es', clock', hrun, hi'⟩ := run_update_string ht hk h.block hi k u
  unfold Oper.wp
  simp [execOp, hop, hm, hx, hv, hrun, Result.andThen]
  exact hK _ (h.setObj.toMap hi')
theorem Holds.deleteMap (h : Holds g w (OwnMap b l :: F)) (ht : P.underlying t = some (.map kt et)) (hk : P.underlying kt = some .string) (k : ByteArray) (t2 ty : TypeId) :
    ∃ w', (Builtin.delete_ #[t, t2] ty #[.map (some b), .string k]).run P w = .ok (.tuple #[]) w' ∧ Holds g w' (OwnMap b (l.del k) :: F) := by
  obtain ⟨es, clock, hi, h⟩ := h.mapAt
  obtain ⟨es', clock', hrun, hi'⟩ := run_delete_string ht hk h.block hi k t2 ty
  exact ⟨_, hrun, h.setObj.toMap hi'⟩
theorem Holds.updateMap (h : Holds g w (OwnMap b l :: F)) (ht : P.underlying t = some (.map kt et)) (hk : P.underlying kt = some .string) (k : ByteArray) (v : Value) :
    ∃ w', (Instr.mapUpdate t (.map (some b)) (.string k) v).run P w = .ok () w' ∧ Holds g w' (OwnMap b (l.put k v) :: F) := by
  obtain ⟨es, clock, hi, h⟩ := h.mapAt
  obtain ⟨es', clock', hrun, hi'⟩ := run_update_string ht hk h.block hi k v
  exact ⟨_, hrun, h.setObj.toMap hi'⟩
/-- The number of a map's keys. -/
theorem Holds.mapLen (h : Holds g w (OwnMap b l :: F)) : ∃ es clock, w.heap[b]? = some (.map es clock) ∧ es.size = l.length := by
  obtain ⟨es, clock, hm, h⟩ := h.mapAt
  exact ⟨es, clock, h.block, hm.size⟩
end
end Go.Proofs.YtbbdimlpofjlfaaGreatDoor
