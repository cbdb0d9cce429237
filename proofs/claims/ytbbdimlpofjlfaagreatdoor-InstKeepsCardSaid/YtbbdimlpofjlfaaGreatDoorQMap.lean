/- Maps with texts as keys that a call owns, as assertions of the separation logic. No program is named here. -/
import Derived.Test.YtbbdimlpofjlfaaGreatDoorQSl
import Derived.Maps.OwnOps
import Derived.MapKept
namespace Go.Proofs.YtbbdimlpofjlfaaGreatDoor
open Go Go.RowKit

theorem beq_bytes (a b : ByteArray) : (a == b) = decide (a = b) := by
  show (a.data == b.data) = _
  by_cases h : a = b
  · subst h; simp
  · have : a.data ≠ b.data := fun e => h (ByteArray.ext e)
    simp [h, this]
/-- What a map holds, in the order in which the keys came. -/
abbrev Assoc := List (ByteArray × Value)
def Assoc.get (l : Assoc) (k : ByteArray) : Option Value := (l.find? fun p => decide (p.1 = k)).map (·.2)
def Assoc.has (l : Assoc) (k : ByteArray) : Bool := l.any fun p => decide (p.1 = k)
def Assoc.put (l : Assoc) (k : ByteArray) (v : Value) : Assoc := if l.has k then l.map (fun p => if p.1 = k then (k, v) else p) else l ++ [(k, v)]
def Assoc.del (l : Assoc) (k : ByteArray) : Assoc := l.filter fun p => !decide (p.1 = k)
def entOf (e : MapEntry) : Value × Value := (e.key, e.val)
def pairOf (p : ByteArray × Value) : Value × Value := (.string p.1, p.2)
def MapIs (es : Array MapEntry) (l : Assoc) : Prop := es.toList.map entOf = l.map pairOf ∧ (l.map (·.1)).Nodup

theorem find_spec (k : ByteArray) : ∀ (es : List MapEntry) (l : Assoc) (i : Nat), es.map entOf = l.map pairOf →
    ∃ r, Instr.findNow .string (.string k) es i = some r ∧ r.map (·.2) = l.get k ∧ (r = none ∧ l.has k = false ∨ ∃ j v, r = some (i + j, v) ∧ l.has k = true ∧ ∃ a c u, l = a ++ (k, u) :: c ∧ a.length = j ∧ ∀ p ∈ a, p.1 ≠ k) := by
  intro es
  induction es with
  | nil =>
    intro l i h
    cases l with
    | nil => exact ⟨none, rfl, rfl, .inl ⟨rfl, rfl⟩⟩
    | cons p l => simp at h
  | cons e es ih =>
    intro l i h
    cases l with
    | nil => simp at h
    | cons p l =>
      simp only [List.map_cons, List.cons.injEq] at h
      obtain ⟨he, hr⟩ := h
      obtain ⟨hk, hv⟩ : e.key = .string p.1 ∧ e.val = p.2 := by simpa [entOf, pairOf] using he
      have hs : Instr.sameNow .string (.string k) e.key = some (decide (k = p.1)) := by rw [hk]; simp only [Instr.sameNow, beq_bytes]
      by_cases hp : p.1 = k
      · refine ⟨some (i, e.val), ?_, ?_, .inr ⟨0, e.val, rfl, ?_, [], l, p.2, ?_, rfl, by simp⟩⟩
        · rw [Instr.findNow, hs]; simp [hp]
        · simp [Assoc.get, hp, hv]
        · simp [Assoc.has, hp]
        · obtain ⟨p1, p2⟩ := p; simp at hp; subst hp; rfl
      · obtain ⟨r, h1, h2, h3⟩ := ih l (i + 1) hr
        have hp' : ¬ k = p.1 := fun h => hp h.symm
        refine ⟨r, ?_, ?_, ?_⟩
        · rw [Instr.findNow, hs]; simp [hp', h1]
        · rw [h2]; simp [Assoc.get, hp]
        · rcases h3 with ⟨rfl, h3⟩ | ⟨j, v, rfl, h3, a, c, u, rfl, h4, h5⟩
          · exact .inl ⟨rfl, by simpa [Assoc.has, hp] using h3⟩
          · refine .inr ⟨j + 1, v, by congr 2; omega, by simp [Assoc.has, hp], p :: a, c, u, rfl, by simp [h4], ?_⟩
            intro q hq
            rcases List.mem_cons.1 hq with rfl | hq
            · exact hp
            · exact h5 q hq
theorem Assoc.get_has (l : Assoc) (k : ByteArray) : (l.get k).isSome = l.has k := by
  unfold Assoc.get Assoc.has
  rw [Option.isSome_map]
  induction l with
  | nil => rfl
  | cons p l ih => by_cases h : p.1 = k <;> simp_all

/-- The call owns the map at block b; it holds l. -/
def OwnMap (b : Nat) (l : Assoc) : SProp := fun h => ∃ es clock, MapIs es l ∧ pts b (.map es clock) h

section
variable {g w : World} {b : Nat} {l : Assoc} {F : List SProp}
theorem Holds.mapAt (h : Holds g w (OwnMap b l :: F)) : ∃ es clock, MapIs es l ∧ Holds g w (pts b (.map es clock) :: F) := by
  obtain ⟨es, h⟩ := h.unex
  obtain ⟨clock, h⟩ := h.unex
  exact ⟨es, clock, h.unfact⟩
theorem Holds.toMap {es : Array MapEntry} {clock : Nat} (hm : MapIs es l) (h : Holds g w (pts b (.map es clock) :: F)) : Holds g w (OwnMap b l :: F) := h.head fun _ hx => ⟨es, clock, hm, hx⟩
theorem Holds.newMap {L : List SProp} (h : Holds g w L) : Holds g (w.alloc (.map #[] 0)) (OwnMap w.heap.size [] :: L) := h.alloc.toMap ⟨rfl, List.nodup_nil⟩
end

section
variable {P : Program} {w : World} {t kt et : TypeId} {b : Nat} {l : Assoc} {es : Array MapEntry} {clock : Nat}
theorem run_checkKey_string (hk : P.underlying kt = some .string) (emp : Bool) (k : ByteArray) : (Instr.checkKey emp 10000 kt (.string k)).run P w = .ok () w := by
  rw [show (10000 : Nat) = 9999 + 1 from rfl, Instr.checkKey]
  simp [run_underlying hk, Result.andThen]
theorem run_findKey_string (hk : P.underlying kt = some .string) (k : ByteArray) {es : List MapEntry} {r : Option (Nat × Value)} (h : Instr.findNow .string (.string k) es 0 = some r) : (Instr.findKey kt (.string k) es).run P w = .ok r w := by
  unfold Instr.findKey
  simp [run_underlying hk, Result.andThen, h]
theorem run_lookup_string (ht : P.underlying t = some (.map kt et)) (hk : P.underlying kt = some .string) (hb : w.heap[b]? = some (.map es clock)) (hm : MapIs es l) {z : Value} (hz : (zeroValue et).run P w = .ok z w) (k : ByteArray) (ok : Bool) :
    (Instr.lookup t (.map (some b)) (.string k) ok).run P w = .ok (if ok then .tuple #[(l.get k).getD z, .bool (l.has k)] else (l.get k).getD z) w := by
  obtain ⟨r, h1, h2, _⟩ := find_spec k es.toList l 0 hm.1
  have h3 := Assoc.get_has l k
  rw [← h2] at h3 ⊢
  rw [← h3]
  unfold Instr.lookup
  cases r with
  | none => simp [run_underlying ht, Result.andThen, MapKept.run_getObj_map hb, run_checkKey_string hk, run_findKey_string hk k h1, hz]
  | some p => simp [run_underlying ht, Result.andThen, MapKept.run_getObj_map hb, run_checkKey_string hk, run_findKey_string hk k h1]
theorem put_split {a c : Assoc} {k : ByteArray} {u v : Value} (ha : ∀ p ∈ a, p.1 ≠ k) (hc : ∀ p ∈ c, p.1 ≠ k) : Assoc.put (a ++ (k, u) :: c) k v = a ++ (k, v) :: c := by
  have h1 : Assoc.has (a ++ (k, u) :: c) k = true := by simp [Assoc.has]
  have f : ∀ x : Assoc, (∀ p ∈ x, p.1 ≠ k) → x.map (fun p => if p.1 = k then (k, v) else p) = x := fun x hx => by
    rw [show x = x.map id by simp] 
    simp only [List.map_map]
    refine List.map_congr_left fun p hp => ?_
    simp [hx p hp]
  rw [Assoc.put, if_pos h1, List.map_append, List.map_cons, f a ha, f c hc, if_pos rfl]
theorem del_split {a c : Assoc} {k : ByteArray} {u : Value} (ha : ∀ p ∈ a, p.1 ≠ k) (hc : ∀ p ∈ c, p.1 ≠ k) : Assoc.del (a ++ (k, u) :: c) k = a ++ c := by
  have f : ∀ x : Assoc, (∀ p ∈ x, p.1 ≠ k) → x.filter (fun p => !decide (p.1 = k)) = x := fun x hx => List.filter_eq_self.2 fun p hp => by simp [hx p hp]
  unfold Assoc.del
  rw [List.filter_append, List.filter_cons, f a ha, f c hc]
  simp
theorem del_none {k : ByteArray} (h : l.has k = false) : l.del k = l := List.filter_eq_self.2 fun p hp => by
  have : ∀ p ∈ l, p.1 ≠ k := by simpa [Assoc.has] using h
  simp [this p hp]
theorem nodup_split {a c : Assoc} {k : ByteArray} {u : Value} (h : ((a ++ (k, u) :: c).map (·.1)).Nodup) : ∀ p ∈ c, p.1 ≠ k := by
  rw [List.map_append, List.map_cons, List.nodup_append] at h
  have h2 := (List.nodup_cons.1 h.2.1).1
  intro p hp he
  exact h2 (by rw [← he]; exact List.mem_map_of_mem (f := (·.1)) hp)
theorem split_at {es : List MapEntry} {a c : Assoc} {k : ByteArray} {u : Value} (h : es.map entOf = (a ++ (k, u) :: c).map pairOf) : ∃ A e C, es = A ++ e :: C ∧ A.map entOf = a.map pairOf ∧ A.length = a.length ∧ entOf e = pairOf (k, u) ∧ C.map entOf = c.map pairOf := by
  rw [List.map_append, List.map_cons] at h
  obtain ⟨A, r, rfl, hA, hr⟩ := List.map_eq_append_iff.1 h
  obtain ⟨e, C, rfl, he, hC⟩ := List.map_eq_cons_iff.1 hr
  exact ⟨A, e, C, rfl, hA, by simpa using congrArg List.length hA, he, hC⟩
theorem modify_mid {α : Type} (f : α → α) (e : α) (C : List α) : ∀ A : List α, (A ++ e :: C).modify A.length f = A ++ f e :: C
  | [] => by simp
  | a :: A => by simp [modify_mid f e C A]
theorem run_keyThatStays (k : ByteArray) : (Instr.keyThatStays (.string k) (.string k)).run P w = .ok (.string k) w := by
  unfold Instr.keyThatStays
  rw [show (10000 : Nat) = 9999 + 1 from rfl]
  simp [Instr.sameBits, beq_bytes]
theorem run_update_string (ht : P.underlying t = some (.map kt et)) (hk : P.underlying kt = some .string) (hb : w.heap[b]? = some (.map es clock)) (hm : MapIs es l) (k : ByteArray) (v : Value) :
    ∃ es' clock', (Instr.mapUpdate t (.map (some b)) (.string k) v).run P w = .ok () { w with heap := w.heap.setIfInBounds b (.map es' clock') } ∧ MapIs es' (l.put k v) := by
  obtain ⟨r, h1, h2, h3⟩ := find_spec k es.toList l 0 hm.1
  rcases h3 with ⟨rfl, h3⟩ | ⟨j, u', rfl, h3, a, c, u, rfl, h4, h5⟩
  · refine ⟨es.push { key := .string k, val := v, born := clock }, clock + 1, ?_, ?_, ?_⟩
    · unfold Instr.mapUpdate
      simp [run_underlying ht, Result.andThen, MapKept.run_getObj_map hb, run_checkKey_string hk, run_findKey_string hk k h1, MapKept.run_setObj_map _ hb]
    · rw [Assoc.put, h3]
      simp [hm.1, entOf, pairOf]
    · rw [Assoc.put, h3]
      have : ∀ p ∈ l, p.1 ≠ k := by simpa [Assoc.has] using h3
      simp only [Bool.false_eq_true, if_false, List.map_append, List.map_cons, List.map_nil]
      rw [List.nodup_append]
      exact ⟨hm.2, by simp, fun x hx y hy => by
        obtain ⟨p, hp, rfl⟩ := List.mem_map.1 hx
        rw [List.mem_singleton.1 hy]
        exact this p hp⟩
  · have hc := nodup_split hm.2
    obtain ⟨A, e, C, hes, hA, hAl, he, hC⟩ := split_at hm.1
    obtain ⟨hek, hev⟩ : e.key = .string k ∧ e.val = u := by simpa [entOf, pairOf] using he
    have hj : A.length = j := by omega
    have hget : es[j]? = some e := by rw [← Array.getElem?_toList, hes, List.getElem?_append_right (by omega), hj]; simp
    refine ⟨es.modify j fun e => { e with key := .string k, val := v }, clock, ?_, ?_, ?_⟩
    · unfold Instr.mapUpdate
      rw [Nat.zero_add] at h1
      simp [run_underlying ht, Result.andThen, MapKept.run_getObj_map hb, run_checkKey_string hk, run_findKey_string hk k h1, hget, hek, run_keyThatStays, MapKept.run_setObj_map _ hb]
    · rw [put_split h5 hc]
      have hmod : (es.modify j fun e => { e with key := .string k, val := v }).toList = A ++ { e with key := .string k, val := v } :: C := by
        rw [Array.toList_modify, hes, ← hj, modify_mid]
      rw [hmod]
      simp [hA, hC, entOf, pairOf]
    · rw [put_split h5 hc]
      have := hm.2
      simpa using this
theorem run_delete_string (ht : P.underlying t = some (.map kt et)) (hk : P.underlying kt = some .string) (hb : w.heap[b]? = some (.map es clock)) (hm : MapIs es l) (k : ByteArray) (t2 ty : TypeId) :
    ∃ es' clock', (Builtin.delete_ #[t, t2] ty #[.map (some b), .string k]).run P w = .ok (.tuple #[]) { w with heap := w.heap.setIfInBounds b (.map es' clock') } ∧ MapIs es' (l.del k) := by
  obtain ⟨r, h1, h2, h3⟩ := find_spec k es.toList l 0 hm.1
  rcases h3 with ⟨rfl, h3⟩ | ⟨j, u', rfl, h3, a, c, u, rfl, h4, h5⟩
  · refine ⟨es, clock, ?_, by rw [del_none h3]; exact hm⟩
    unfold Builtin.delete_
    simp [run_underlying ht, Result.andThen, MapKept.run_getObj_map hb, run_checkKey_string hk, run_findKey_string hk k h1, MapKept.run_setObj_map _ hb]
  · have hc := nodup_split hm.2
    obtain ⟨A, e, C, hes, hA, hAl, he, hC⟩ := split_at hm.1
    have hj : A.length = j := by omega
    refine ⟨es.eraseIdxIfInBounds j, clock, ?_, ?_, ?_⟩
    · unfold Builtin.delete_
      rw [Nat.zero_add] at h1
      simp [run_underlying ht, Result.andThen, MapKept.run_getObj_map hb, run_checkKey_string hk, run_findKey_string hk k h1, MapKept.run_setObj_map _ hb]
    · rw [del_split h5 hc]
      have hmod : (es.eraseIdxIfInBounds j).toList = A ++ C := by
        rw [Array.toList_eraseIdxIfInBounds, hes, ← hj, List.eraseIdx_append_of_length_le (Nat.le_refl _)]
        simp
      rw [hmod]
      simp [hA, hC]
    · rw [del_split h5 hc]
      have := hm.2
      simp only [List.map_append, List.map_cons, List.nodup_append, List.nodup_cons] at this ⊢
      exact ⟨this.1, this.2.1.2, fun x hx y hy => this.2.2 x hx y (List.mem_cons_of_mem _ hy)⟩
theorem MapIs.size (hm : MapIs es l) : es.size = l.length := by simpa using congrArg List.length hm.1
end
section
variable {P : Program} {g w : World} {t kt et : TypeId} {b : Nat} {l : Assoc} {F : List SProp} {ops : Array Oper} {rest : List Oper} {o : Oper} {a : Act} {Q : Exit → Act → World → Prop}
theorem Holds.lookup (h : Holds g w (OwnMap b l :: F)) (ht : P.underlying t = some (.map kt et)) (hk : P.underlying kt = some .string) {z : Value} (hz : ∀ w, (zeroValue et).run P w = .ok z w) (k : ByteArray) :
    (Instr.lookup t (.map (some b)) (.string k) false).run P w = .ok ((l.get k).getD z) w := by
  obtain ⟨es, clock, hm, h⟩ := h.mapAt
  exact run_lookup_string ht hk h.block hm (hz w) k false
theorem Holds.lookupOk (h : Holds g w (OwnMap b l :: F)) (ht : P.underlying t = some (.map kt et)) (hk : P.underlying kt = some .string) {z : Value} (hz : ∀ w, (zeroValue et).run P w = .ok z w) (k : ByteArray) :
    (Instr.lookup t (.map (some b)) (.string k) true).run P w = .ok (.tuple #[(l.get k).getD z, .bool (l.has k)]) w := by
  obtain ⟨es, clock, hm, h⟩ := h.mapAt
  exact run_lookup_string ht hk h.block hm (hz w) k true
theorem wpList_update_map (hg : o.guard = none) (m x v : Operand) (hop : o.op = Op.mapUpdate t m x v) (ht : P.underlying t = some (.map kt et)) (hk : P.underlying kt = some .string)
    (h : Holds g w (OwnMap b l :: F)) (k : ByteArray) (u : Value) (hm : a.eval m = .map (some b)) (hx : a.eval x = .string k) (hv : a.eval v = u)
    (hK : ∀ w', Holds g w' (OwnMap b (l.put k u) :: F) → wpList P ops Q rest (a.put o.dst undef) w') : wpList P ops Q (o :: rest) a w := by
  refine wpList_plain hg fun K' hK' => ?_
  obtain ⟨es, clock, hi, h⟩ := h.mapAt
  obtain ⟨es', clock', hrun, hi'⟩ := run_update_string ht hk h.block hi k u
  unfold Oper.wp
  simp [execOp, hop, hm, hx, hv, hrun, Result.andThen]
  exact hK' _ _ (hK _ (h.setObj.toMap hi'))
end
end Go.Proofs.YtbbdimlpofjlfaaGreatDoor
