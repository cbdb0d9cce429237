/- Keys in a row, linked both ways in an arena: no program in sight. -/
import Derived.Test.YtbbdimlpofjlfaaGreatDoorQMap2
namespace Go.Proofs.YtbbdimlpofjlfaaGreatDoor
open Go Go.RowKit

structure Plc where
  key : ByteArray
  next : Nat
  last : Nat
def plc0 : Plc := ⟨⟨#[]⟩, 0, 0⟩
def plN (a : List Plc) (i : Nat) : Nat := (a.getD i plc0).next
def plL (a : List Plc) (i : Nat) : Nat := (a.getD i plc0).last
def plK (a : List Plc) (i : Nat) : ByteArray := (a.getD i plc0).key
def sN (a : List Plc) (i v : Nat) : List Plc := a.set i ⟨plK a i, v, plL a i⟩
def sL (a : List Plc) (i v : Nat) : List Plc := a.set i ⟨plK a i, plN a i, v⟩
theorem getD_set (a : List Plc) (i j : Nat) (p : Plc) (h : i < a.length) : (a.set i p).getD j plc0 = if i = j then p else a.getD j plc0 := by
  simp only [List.getD, List.getElem?_set, h]
  split <;> simp_all
theorem plN_set (a : List Plc) (i j : Nat) (p : Plc) (h : i < a.length) : plN (a.set i p) j = if i = j then p.next else plN a j := by
  unfold plN; rw [getD_set a i j p h]; split <;> rfl
theorem plL_set (a : List Plc) (i j : Nat) (p : Plc) (h : i < a.length) : plL (a.set i p) j = if i = j then p.last else plL a j := by
  unfold plL; rw [getD_set a i j p h]; split <;> rfl
theorem plK_set (a : List Plc) (i j : Nat) (p : Plc) (h : i < a.length) : plK (a.set i p) j = if i = j then p.key else plK a j := by
  unfold plK; rw [getD_set a i j p h]; split <;> rfl
theorem plN_sN (a : List Plc) (i j v : Nat) (h : i < a.length) : plN (sN a i v) j = if i = j then v else plN a j := plN_set a i j _ h
theorem plL_sN (a : List Plc) (i j v : Nat) (h : i < a.length) : plL (sN a i v) j = plL a j := by
  unfold sN; rw [plL_set a i j _ h]; split <;> simp_all
theorem plK_sN (a : List Plc) (i j v : Nat) (h : i < a.length) : plK (sN a i v) j = plK a j := by
  unfold sN; rw [plK_set a i j _ h]; split <;> simp_all
theorem plN_sL (a : List Plc) (i j v : Nat) (h : i < a.length) : plN (sL a i v) j = plN a j := by
  unfold sL; rw [plN_set a i j _ h]; split <;> simp_all
theorem plL_sL (a : List Plc) (i j v : Nat) (h : i < a.length) : plL (sL a i v) j = if i = j then v else plL a j := plL_set a i j _ h
theorem plK_sL (a : List Plc) (i j v : Nat) (h : i < a.length) : plK (sL a i v) j = plK a j := by
  unfold sL; rw [plK_set a i j _ h]; split <;> simp_all
theorem sN_length (a : List Plc) (i v : Nat) : (sN a i v).length = a.length := List.length_set
theorem sL_length (a : List Plc) (i v : Nat) : (sL a i v).length = a.length := List.length_set
/-- Each is linked to the next one, and back. -/
def Linked (a : List Plc) : List Nat → Prop
  | x :: y :: l => plN a x = y ∧ plL a y = x ∧ Linked a (y :: l)
  | _ => True
theorem Linked.parts {a : List Plc} : ∀ {P : List Nat} {x : Nat} {S : List Nat}, Linked a (P ++ x :: S) → Linked a (P ++ [x]) ∧ Linked a (x :: S)
  | [], _, _, h => ⟨trivial, h⟩
  | [_], _, _, h => ⟨⟨h.1, h.2.1, trivial⟩, h.2.2⟩
  | _ :: q :: P, x, S, h => by
    have := Linked.parts (P := q :: P) (x := x) (S := S) h.2.2
    exact ⟨⟨h.1, h.2.1, this.1⟩, this.2⟩
theorem Linked.join {a : List Plc} : ∀ {P : List Nat} {x : Nat} {S : List Nat}, Linked a (P ++ [x]) → Linked a (x :: S) → Linked a (P ++ x :: S)
  | [], _, _, _, h => h
  | [_], _, _, h, h2 => ⟨h.1, h.2.1, h2⟩
  | _ :: q :: P, _, _, h, h2 => ⟨h.1, h.2.1, Linked.join (P := q :: P) h.2.2 h2⟩
/-- What isn't linked is no part of it. -/
theorem Linked.frame {a a' : List Plc} : ∀ {l : List Nat}, Linked a l → (∀ i ∈ l.dropLast, plN a' i = plN a i) → (∀ i ∈ l.tail, plL a' i = plL a i) → Linked a' l
  | [], _, _, _ => trivial
  | [_], _, _, _ => trivial
  | x :: y :: l, h, hn, hl => by
    refine ⟨?_, ?_, Linked.frame (l := y :: l) h.2.2 (fun i hi => hn i ?_) (fun i hi => hl i ?_)⟩
    · rw [hn x (by simp [List.dropLast])]; exact h.1
    · rw [hl y (by simp)]; exact h.2.1
    · rw [List.dropLast_cons_of_ne_nil (by simp)]; exact List.mem_cons_of_mem _ hi
    · exact List.mem_cons_of_mem _ hi
structure LOk (a : List Plc) (e : List Nat) (m : Assoc) (is : List Nat) (ks : List ByteArray) : Prop where
  key : is.map (plK a) = ks
  nd : (0 :: (is ++ e)).Nodup
  lt : ∀ i ∈ is ++ e, i < a.length
  len : a.length = 1 + is.length + e.length
  ring : Linked a (0 :: (is ++ [0]))
  knd : ks.Nodup
  has : ∀ k, m.has k = true ↔ k ∈ ks
  get : ∀ i ∈ is, m.get (plK a i) = some (.int .i64 (i : Nat))
  mlen : m.length = ks.length
  mnd : (m.map (·.1)).Nodup
  zero : plK a 0 = ⟨#[]⟩
theorem LOk.new : LOk [plc0] [] [] [] [] := ⟨rfl, by simp, by simp, rfl, ⟨rfl, rfl, trivial⟩, List.nodup_nil, fun k => by simp [Assoc.has], by simp, rfl, List.nodup_nil, rfl⟩
theorem LOk.pos {a e m is ks} (h : LOk a e m is ks) : 0 < a.length := by rw [h.len]; omega
theorem LOk.klen {a e m is ks} (h : LOk a e m is ks) : ks.length = is.length := by rw [← h.key, List.length_map]
/-- A place of the arena more. -/
theorem LOk.push {a m is ks} (h : LOk a [] m is ks) : LOk (a ++ [plc0]) [a.length] m is ks := by
  have hg : ∀ i, i < a.length → (a ++ [plc0]).getD i plc0 = a.getD i plc0 := fun i hi => by
    simp only [List.getD, List.getElem?_append_left hi]
  have hlt : ∀ i ∈ is, i < a.length := fun i hi => h.lt i (by simpa using hi)
  have hk : ∀ i, i < a.length → plK (a ++ [plc0]) i = plK a i := fun i hi => by unfold plK; rw [hg i hi]
  have hr : ∀ i ∈ 0 :: (is ++ [0]), i < a.length := fun i hi => by
    rcases List.mem_cons.1 hi with rfl | hi
    · exact h.pos
    · rcases List.mem_append.1 hi with hi | hi
      · exact hlt i hi
      · rw [List.mem_singleton.1 hi]; exact h.pos
  refine ⟨?_, ?_, ?_, ?_, ?_, h.knd, h.has, ?_, h.mlen, h.mnd, ?_⟩
  · rw [← h.key]
    exact List.map_congr_left fun i hi => hk i (hlt i hi)
  · have := h.nd
    rw [List.append_nil] at this
    rw [List.nodup_cons] at this ⊢
    refine ⟨fun hm => ?_, ?_⟩
    · rcases List.mem_append.1 hm with hm | hm
      · exact this.1 hm
      · have := List.mem_singleton.1 hm
        have := h.pos
        omega
    · rw [List.nodup_append]
      refine ⟨this.2, by simp, fun x hx y hy => ?_⟩
      rw [List.mem_singleton.1 hy]
      have := hlt x hx
      omega
  · intro i hi
    rw [List.length_append, List.length_singleton]
    rcases List.mem_append.1 hi with hi | hi
    · have := hlt i hi; omega
    · rw [List.mem_singleton.1 hi]; omega
  · rw [List.length_append, List.length_singleton, h.len]; simp
  · exact h.ring.frame (fun i hi => by unfold plN; rw [hg i (hr i (List.dropLast_subset _ hi))]) (fun i hi => by unfold plL; rw [hg i (hr i (List.mem_of_mem_tail hi))])
  · intro i hi
    rw [hk i (hlt i hi)]; exact h.get i hi
  · rw [hk 0 h.pos]; exact h.zero
/-- A key comes between two. -/
theorem LOk.insert {a e m is ks} {k : Nat} {key : ByteArray} {l1 l2 P S : List Nat} {x y : Nat} (h : LOk a (e ++ [k]) m is ks) (hk : key ∉ ks) (his : is = l1 ++ l2) (hP : 0 :: l1 = P ++ [x]) (hS : l2 ++ [0] = y :: S) :
    LOk (sL (sN (a.set k ⟨key, y, x⟩) x k) y k) e (m.put key (.int .i64 (k : Nat))) (l1 ++ k :: l2) (l1.map (plK a) ++ key :: l2.map (plK a)) := by
  have hkl : k < a.length := h.lt k (by simp)
  have hnd := h.nd
  rw [his] at hnd
  have hx0 : x ∈ 0 :: l1 := by rw [hP]; simp
  have hy0 : y ∈ l2 ++ [0] := by rw [hS]; simp
  have hxk : x ≠ k := by
    intro hc; subst hc
    rcases List.mem_cons.1 hx0 with rfl | hx
    · simp at hnd
    · rw [List.nodup_cons, List.append_assoc, List.nodup_append] at hnd
      exact hnd.2.2.2 x hx x (by simp) rfl
  have hyk : y ≠ k := by
    intro hc; subst hc
    rcases List.mem_append.1 hy0 with hy | hy
    · rw [List.nodup_cons, List.append_assoc, List.nodup_append, List.nodup_append] at hnd
      exact hnd.2.2.1.2.2 y hy y (by simp) rfl
    · rw [List.mem_singleton.1 hy] at hnd
      simp at hnd
  have hxl : x < a.length := by
    rcases List.mem_cons.1 hx0 with rfl | hx
    · exact h.pos
    · exact h.lt x (by rw [his]; simp [hx])
  have hyl : y < a.length := by
    rcases List.mem_append.1 hy0 with hy | hy
    · exact h.lt y (by rw [his]; simp [hy])
    · rw [List.mem_singleton.1 hy]; exact h.pos
  have l1' : (a.set k ⟨key, y, x⟩).length = a.length := List.length_set
  have l2' : (sN (a.set k ⟨key, y, x⟩) x k).length = a.length := by rw [sN_length, l1']
  have hN : ∀ j, plN (sL (sN (a.set k ⟨key, y, x⟩) x k) y k) j = if x = j then k else if k = j then y else plN a j := fun j => by
    rw [plN_sL _ _ _ _ (by rw [l2']; exact hyl), plN_sN _ _ _ _ (by rw [l1']; exact hxl), plN_set _ _ _ _ hkl]
  have hL : ∀ j, plL (sL (sN (a.set k ⟨key, y, x⟩) x k) y k) j = if y = j then k else if k = j then x else plL a j := fun j => by
    rw [plL_sL _ _ _ _ (by rw [l2']; exact hyl), plL_sN _ _ _ _ (by rw [l1']; exact hxl), plL_set _ _ _ _ hkl]
  have hK : ∀ j, plK (sL (sN (a.set k ⟨key, y, x⟩) x k) y k) j = if k = j then key else plK a j := fun j => by
    rw [plK_sL _ _ _ _ (by rw [l2']; exact hyl), plK_sN _ _ _ _ (by rw [l1']; exact hxl), plK_set _ _ _ _ hkl]
  have hk1 : k ∉ l1 := fun hm => by
    rw [List.nodup_cons, List.append_assoc, List.nodup_append] at hnd
    exact hnd.2.2.2 k hm k (by simp) rfl
  have hk2 : k ∉ l2 := fun hm => by
    rw [List.nodup_cons, List.append_assoc, List.nodup_append, List.nodup_append] at hnd
    exact hnd.2.2.1.2.2 k hm k (by simp) rfl
  have hk0 : k ≠ 0 := fun hm => by subst hm; simp at hnd
  have hks : ks = l1.map (plK a) ++ l2.map (plK a) := by rw [← h.key, his, List.map_append]
  have hm1 : l1.map (plK (sL (sN (a.set k ⟨key, y, x⟩) x k) y k)) = l1.map (plK a) := List.map_congr_left fun i hi => by
    rw [hK, if_neg]; intro hc; subst hc; exact hk1 hi
  have hm2 : l2.map (plK (sL (sN (a.set k ⟨key, y, x⟩) x k) y k)) = l2.map (plK a) := List.map_congr_left fun i hi => by
    rw [hK, if_neg]; intro hc; subst hc; exact hk2 hi
  have hmf : m.has key = false := by
    cases hc : m.has key
    · rfl
    · exact absurd ((h.has key).1 hc) hk
  have hring := h.ring
  rw [his, List.append_assoc, ← List.cons_append, hP, hS, List.append_assoc, List.singleton_append] at hring
  obtain ⟨hr1, hr2⟩ := hring.parts
  refine ⟨?_, ?_, ?_, ?_, ?_, ?_, ?_, ?_, ?_, ?_, ?_⟩
  · rw [List.map_append, List.map_cons, hm1, hm2, hK, if_pos rfl]
  · have hp : List.Perm (0 :: (l1 ++ l2 ++ (e ++ [k]))) (0 :: (l1 ++ k :: l2 ++ e)) := by
      refine List.Perm.cons _ ?_
      have : List.Perm (l2 ++ (e ++ [k])) (k :: l2 ++ e) := by
        rw [← List.append_assoc]
        exact List.perm_append_comm.trans (by simp)
      rw [List.append_assoc, List.append_assoc]
      exact List.Perm.append_left _ this
    exact hp.nodup_iff.1 hnd
  · intro i hi
    rw [sL_length, l2']
    refine h.lt i ?_
    rw [his]
    simp only [List.mem_append, List.mem_cons] at hi ⊢
    rcases hi with (hi | hi | hi) | hi
    · simp [hi]
    · simp [hi]
    · simp [hi]
    · simp [hi]
  · rw [sL_length, l2', h.len, his]
    simp
    omega
  · have e1 : 0 :: (l1 ++ k :: l2 ++ [0]) = P ++ x :: (k :: y :: S) := by
      rw [List.append_assoc, List.cons_append, hS, ← List.cons_append, hP]; simp
    rw [e1]
    have hPx : ∀ i ∈ P, i ≠ x := fun i hi hc => by
      subst hc
      have : (0 :: l1).Nodup := by
        rw [List.append_assoc, ← List.cons_append, List.nodup_append] at hnd
        exact hnd.1
      rw [hP, List.nodup_append] at this
      exact this.2.2 i hi i (by simp) rfl
    have hSy : ∀ i ∈ S, i ≠ y := fun i hi hc => by
      subst hc
      have h0 : (l2 ++ [0]).Nodup := by
        rw [List.nodup_append]
        rw [List.nodup_cons, List.append_assoc, List.nodup_append, List.nodup_append] at hnd
        refine ⟨hnd.2.2.1.1, by simp, fun u hu v hv => ?_⟩
        rw [List.mem_singleton.1 hv]
        intro hc
        subst hc
        exact hnd.1 (by simp [hu])
      rw [hS, List.nodup_cons] at h0
      exact h0.1 hi
    refine Linked.join ?_ ⟨by rw [hN, if_pos rfl], by rw [hL, if_neg hyk, if_pos rfl], by rw [hN, if_neg hxk, if_pos rfl], by rw [hL, if_pos rfl], ?_⟩
    · refine hr1.frame (fun i hi => ?_) (fun i hi => ?_)
      · rw [List.dropLast_concat] at hi
        rw [hN, if_neg (fun hc => hPx i hi hc.symm), if_neg]
        rintro rfl
        have : k ∈ 0 :: l1 := by rw [hP]; simp [hi]
        rcases List.mem_cons.1 this with hc | hc
        · exact hk0 hc
        · exact hk1 hc
      · have hit : i ∈ l1 := by
          rw [← hP] at hi
          exact hi
        rw [hL, if_neg, if_neg]
        · rintro rfl; exact hk1 hit
        · rintro rfl
          rcases List.mem_append.1 hy0 with hy | hy
          · rw [List.nodup_cons, List.append_assoc, List.nodup_append] at hnd
            exact hnd.2.2.2 y hit y (by simp [hy]) rfl
          · rw [List.mem_singleton.1 hy] at hit
            rw [List.nodup_cons] at hnd
            exact hnd.1 (by simp [hit])
    · refine hr2.2.2.frame (fun i hi => ?_) (fun i hi => ?_)
      · have hit : i ∈ l2 := by
          rw [← hS, List.dropLast_concat] at hi
          exact hi
        rw [hN, if_neg, if_neg]
        · rintro rfl; exact hk2 hit
        · rintro rfl
          rcases List.mem_cons.1 hx0 with rfl | hx
          · rw [List.nodup_cons] at hnd
            exact hnd.1 (by simp [hit])
          · rw [List.nodup_cons, List.append_assoc, List.nodup_append] at hnd
            exact hnd.2.2.2 x hx x (by simp [hit]) rfl
      · rw [List.tail_cons] at hi
        rw [hL, if_neg (fun hc => hSy i hi hc.symm), if_neg]
        rintro rfl
        have : k ∈ l2 ++ [0] := by rw [hS]; simp [hi]
        rcases List.mem_append.1 this with hc | hc
        · exact hk2 hc
        · exact hk0 (List.mem_singleton.1 hc)
  · have := h.knd
    rw [hks] at this hk
    have hp : List.Perm (key :: (l1.map (plK a) ++ l2.map (plK a))) (l1.map (plK a) ++ key :: l2.map (plK a)) := List.perm_middle.symm
    exact hp.nodup_iff.1 (List.nodup_cons.2 ⟨hk, this⟩)
  · intro c
    rw [as_has_put, Bool.or_eq_true, h.has, decide_eq_true_iff, hks]
    simp only [List.mem_append, List.mem_cons]
    constructor
    · rintro ((hc | hc) | hc)
      · exact .inl hc
      · exact .inr (.inr hc)
      · exact .inr (.inl hc.symm)
    · rintro (hc | hc | hc)
      · exact .inl (.inl hc)
      · exact .inr hc.symm
      · exact .inl (.inr hc)
  · intro i hi
    rw [hK, as_get_put]
    by_cases hik : k = i
    · rw [if_pos hik, if_pos rfl, hik]
    · rw [if_neg hik]
      have hi' : i ∈ is := by
        rw [his]
        simp only [List.mem_append, List.mem_cons] at hi ⊢
        rcases hi with hi | hi | hi
        · exact .inl hi
        · exact absurd hi.symm hik
        · exact .inr hi
      rw [if_neg, h.get i hi']
      intro hc
      exact hk (by rw [← h.key, hc]; exact List.mem_map_of_mem hi')
  · rw [as_len_put _ _ _ hmf, h.mlen, hks]
    simp
    omega
  · unfold Assoc.put
    rw [if_neg (by rw [hmf]; exact Bool.false_ne_true), List.map_append, List.nodup_append]
    refine ⟨h.mnd, by simp, fun u hu v hv => ?_⟩
    rw [List.map_singleton, List.mem_singleton] at hv
    rw [hv]
    intro hc
    subst hc
    exact hk ((h.has u).1 ((as_has_keys m u).2 hu))
  · rw [hK, if_neg hk0]; exact h.zero
theorem snoc_of (x : Nat) (l : List Nat) : ∃ P z, x :: l = P ++ [z] := ⟨(x :: l).dropLast, (x :: l).getLast (by simp), (List.dropLast_concat_getLast (by simp)).symm⟩
theorem cons_of (l : List Nat) (x : Nat) : ∃ y S, l ++ [x] = y :: S := by
  cases l with
  | nil => exact ⟨x, [], rfl⟩
  | cons y l => exact ⟨y, l ++ [x], rfl⟩
/-- The two beside a key. -/
theorem LOk.beside {a e m is ks} {i : Nat} {l1 l2 P S : List Nat} {x y : Nat} (h : LOk a e m is ks) (his : is = l1 ++ i :: l2) (hP : 0 :: l1 = P ++ [x]) (hS : l2 ++ [0] = y :: S) : plL a i = x ∧ plN a i = y := by
  have hring := h.ring
  rw [his, List.append_assoc, ← List.cons_append, hP, List.append_assoc, List.singleton_append, List.cons_append, hS] at hring
  obtain ⟨_, hr2⟩ := hring.parts
  exact ⟨hr2.2.1, hr2.2.2.1⟩
/-- A key goes. -/
theorem LOk.remove {a e m is ks} {i : Nat} {l1 l2 P S : List Nat} {x y : Nat} (h : LOk a e m is ks) (his : is = l1 ++ i :: l2) (hP : 0 :: l1 = P ++ [x]) (hS : l2 ++ [0] = y :: S) :
    LOk ((sL (sN a x y) y x).set i plc0) (e ++ [i]) (m.del (plK a i)) (l1 ++ l2) (l1.map (plK a) ++ l2.map (plK a)) := by
  have hnd := h.nd
  rw [his] at hnd
  have hil : i < a.length := h.lt i (by rw [his]; simp)
  have hx0 : x ∈ 0 :: l1 := by rw [hP]; simp
  have hy0 : y ∈ l2 ++ [0] := by rw [hS]; simp
  have hndl : (0 :: (l1 ++ i :: l2)).Nodup := by
    rw [← List.cons_append, List.nodup_append] at hnd
    exact hnd.1
  have hi1 : i ∉ l1 := fun hm => by
    rw [List.nodup_cons, List.nodup_append] at hndl
    exact hndl.2.2.2 i hm i (by simp) rfl
  have hi2 : i ∉ l2 := fun hm => by
    rw [List.nodup_cons, List.nodup_append, List.nodup_cons] at hndl
    exact hndl.2.2.1.1 hm
  have hi0 : i ≠ 0 := fun hc => by subst hc; simp at hndl
  have hix : i ≠ x := fun hc => by
    subst hc
    rcases List.mem_cons.1 hx0 with hc | hc
    · exact hi0 hc
    · exact hi1 hc
  have hiy : i ≠ y := fun hc => by
    subst hc
    rcases List.mem_append.1 hy0 with hc | hc
    · exact hi2 hc
    · exact hi0 (List.mem_singleton.1 hc)
  have hxl : x < a.length := by
    rcases List.mem_cons.1 hx0 with rfl | hx
    · exact h.pos
    · exact h.lt x (by rw [his]; simp [hx])
  have hyl : y < a.length := by
    rcases List.mem_append.1 hy0 with hy | hy
    · exact h.lt y (by rw [his]; simp [hy])
    · rw [List.mem_singleton.1 hy]; exact h.pos
  have g1 : (sN a x y).length = a.length := sN_length _ _ _
  have g2 : (sL (sN a x y) y x).length = a.length := by rw [sL_length, g1]
  have hN : ∀ j, plN ((sL (sN a x y) y x).set i plc0) j = if i = j then 0 else if x = j then y else plN a j := fun j => by
    rw [plN_set _ _ _ _ (by rw [g2]; exact hil), plN_sL _ _ _ _ (by rw [g1]; exact hyl), plN_sN _ _ _ _ hxl]; rfl
  have hL : ∀ j, plL ((sL (sN a x y) y x).set i plc0) j = if i = j then 0 else if y = j then x else plL a j := fun j => by
    rw [plL_set _ _ _ _ (by rw [g2]; exact hil), plL_sL _ _ _ _ (by rw [g1]; exact hyl), plL_sN _ _ _ _ hxl]; rfl
  have hK : ∀ j, plK ((sL (sN a x y) y x).set i plc0) j = if i = j then ⟨#[]⟩ else plK a j := fun j => by
    rw [plK_set _ _ _ _ (by rw [g2]; exact hil), plK_sL _ _ _ _ (by rw [g1]; exact hyl), plK_sN _ _ _ _ hxl]; rfl
  have hm1 : l1.map (plK ((sL (sN a x y) y x).set i plc0)) = l1.map (plK a) := List.map_congr_left fun j hj => by
    rw [hK, if_neg]; rintro rfl; exact hi1 hj
  have hm2 : l2.map (plK ((sL (sN a x y) y x).set i plc0)) = l2.map (plK a) := List.map_congr_left fun j hj => by
    rw [hK, if_neg]; rintro rfl; exact hi2 hj
  have hks : ks = l1.map (plK a) ++ plK a i :: l2.map (plK a) := by rw [← h.key, his, List.map_append, List.map_cons]
  have hknd := h.knd
  rw [hks] at hknd
  have hring := h.ring
  rw [his, List.append_assoc, ← List.cons_append, hP, List.append_assoc, List.singleton_append, List.cons_append, hS] at hring
  obtain ⟨hr1, hr2⟩ := hring.parts
  have hmt : m.has (plK a i) = true := (h.has _).2 (by rw [hks]; simp)
  refine ⟨?_, ?_, ?_, ?_, ?_, ?_, ?_, ?_, ?_, ?_, ?_⟩
  · rw [List.map_append, hm1, hm2]
  · have hp : List.Perm (0 :: (l1 ++ i :: l2 ++ e)) (0 :: (l1 ++ l2 ++ (e ++ [i]))) := by
      refine List.Perm.cons _ ?_
      rw [List.append_assoc, List.append_assoc]
      refine List.Perm.append_left _ ?_
      have : List.Perm (i :: (l2 ++ e)) ((l2 ++ e) ++ [i]) := List.perm_append_singleton i (l2 ++ e) |>.symm
      rw [List.append_assoc] at this
      exact this
    exact hp.nodup_iff.1 hnd
  · intro j hj
    rw [List.length_set, g2]
    refine h.lt j ?_
    rw [his]
    simp only [List.mem_append, List.mem_cons, List.not_mem_nil, or_false] at hj ⊢
    rcases hj with (hj | hj) | hj | hj
    · simp [hj]
    · simp [hj]
    · simp [hj]
    · simp [hj]
  · rw [List.length_set, g2, h.len, his]
    simp
    omega
  · have e1 : 0 :: (l1 ++ l2 ++ [0]) = P ++ x :: (y :: S) := by rw [List.append_assoc, hS, ← List.cons_append, hP]; simp
    rw [e1]
    have hPx : ∀ j ∈ P, j ≠ x := fun j hj hc => by
      subst hc
      have : (0 :: l1).Nodup := by
        rw [← List.cons_append, List.nodup_append] at hndl
        exact hndl.1
      rw [hP, List.nodup_append] at this
      exact this.2.2 j hj j (by simp) rfl
    have hSy : ∀ j ∈ S, j ≠ y := fun j hj hc => by
      subst hc
      have h0 : (l2 ++ [0]).Nodup := by
        rw [List.nodup_cons, List.nodup_append, List.nodup_cons] at hndl
        rw [List.nodup_append]
        refine ⟨hndl.2.2.1.2, by simp, fun u hu v hv => ?_⟩
        rw [List.mem_singleton.1 hv]
        rintro rfl
        exact hndl.1 (by simp [hu])
      rw [hS, List.nodup_cons] at h0
      exact h0.1 hj
    refine Linked.join ?_ ⟨by rw [hN, if_neg hix, if_pos rfl], by rw [hL, if_neg hiy, if_pos rfl], ?_⟩
    · refine hr1.frame (fun j hj => ?_) (fun j hj => ?_)
      · rw [List.dropLast_concat] at hj
        rw [hN, if_neg, if_neg (fun hc => hPx j hj hc.symm)]
        rintro rfl
        have : i ∈ 0 :: l1 := by rw [hP]; simp [hj]
        rcases List.mem_cons.1 this with hc | hc
        · exact hi0 hc
        · exact hi1 hc
      · have hjt : j ∈ l1 := by
          rw [← hP] at hj
          exact hj
        rw [hL, if_neg, if_neg]
        · rintro rfl
          rcases List.mem_append.1 hy0 with hy | hy
          · rw [List.nodup_cons, List.nodup_append] at hndl
            exact hndl.2.2.2 y hjt y (by simp [hy]) rfl
          · rw [List.mem_singleton.1 hy] at hjt
            rw [List.nodup_cons] at hndl
            exact hndl.1 (by simp [hjt])
        · rintro rfl; exact hi1 hjt
    · refine hr2.2.2.2.2.frame (fun j hj => ?_) (fun j hj => ?_)
      · have hjt : j ∈ l2 := by
          rw [← hS, List.dropLast_concat] at hj
          exact hj
        rw [hN, if_neg, if_neg]
        · rintro rfl
          rcases List.mem_cons.1 hx0 with rfl | hx
          · rw [List.nodup_cons] at hndl
            exact hndl.1 (by simp [hjt])
          · rw [List.nodup_cons, List.nodup_append] at hndl
            exact hndl.2.2.2 x hx x (by simp [hjt]) rfl
        · rintro rfl; exact hi2 hjt
      · rw [List.tail_cons] at hj
        rw [hL, if_neg, if_neg (fun hc => hSy j hj hc.symm)]
        rintro rfl
        have : i ∈ l2 ++ [0] := by rw [hS]; simp [hj]
        rcases List.mem_append.1 this with hc | hc
        · exact hi2 hc
        · exact hi0 (List.mem_singleton.1 hc)
  · have hp : List.Perm (l1.map (plK a) ++ plK a i :: l2.map (plK a)) (plK a i :: (l1.map (plK a) ++ l2.map (plK a))) := List.perm_middle
    exact (List.nodup_cons.1 (hp.nodup_iff.1 hknd)).2
  · intro c
    rw [as_has_del, Bool.and_eq_true, h.has, hks]
    simp only [List.mem_append, List.mem_cons, Bool.not_eq_true', decide_eq_false_iff_not]
    have hp : List.Perm (l1.map (plK a) ++ plK a i :: l2.map (plK a)) (plK a i :: (l1.map (plK a) ++ l2.map (plK a))) := List.perm_middle
    have hn := (List.nodup_cons.1 (hp.nodup_iff.1 hknd)).1
    constructor
    · rintro ⟨hc | hc | hc, hne⟩
      · exact .inl hc
      · exact absurd hc.symm hne
      · exact .inr hc
    · rintro hc
      refine ⟨hc.elim .inl fun h => .inr (.inr h), ?_⟩
      rintro rfl
      exact hn (List.mem_append.2 hc)
  · intro j hj
    have hj' : j ∈ is := by
      rw [his]
      simp only [List.mem_append, List.mem_cons] at hj ⊢
      exact hj.elim .inl fun h => .inr (.inr h)
    have hij : i ≠ j := by
      rintro rfl
      exact (List.mem_append.1 hj).elim hi1 hi2
    rw [hK, if_neg hij, as_get_del, if_neg, h.get j hj']
    intro hc
    have h1 := h.get i (by rw [his]; simp)
    have h2 := h.get j hj'
    rw [← hc, h1] at h2
    simp only [Option.some.injEq, Value.int.injEq, true_and] at h2
    exact hij (by omega)
  · have := as_len_del m (plK a i) h.mnd hmt
    rw [h.mlen, hks] at this
    simp at this ⊢
    omega
  · unfold Assoc.del
    exact List.Nodup.sublist (List.Sublist.map _ List.filter_sublist) h.mnd
  · rw [hK, if_neg hi0]; exact h.zero
end Go.Proofs.YtbbdimlpofjlfaaGreatDoor
/- Keys by ranks, the least one first, in a heap: no program in sight. -/
namespace Go.Proofs.YtbbdimlpofjlfaaGreatDoor
open Go Go.RowKit

structure HE where
  key : ByteArray
  one : Int
  two : Int
  came : Int
/-- Is an item ahead of another one? -/
def hLt (x y : HE) : Prop := x.one < y.one ∨ (x.one = y.one ∧ (x.two < y.two ∨ (x.two = y.two ∧ x.came < y.came)))
instance (x y : HE) : Decidable (hLt x y) := by unfold hLt; infer_instance
theorem hLt_irrefl (x : HE) : ¬ hLt x x := by unfold hLt; omega
theorem hLt_asymm {x y : HE} (h : hLt x y) : ¬ hLt y x := by unfold hLt at *; omega
theorem hLt_trans {x y z : HE} (h : hLt x y) (h2 : hLt y z) : hLt x z := by unfold hLt at *; omega
theorem hGe_trans {x y z : HE} (h : ¬ hLt y x) (h2 : ¬ hLt z y) : ¬ hLt z x := by unfold hLt at *; omega
def he0 : HE := ⟨⟨#[]⟩, 0, 0, 0⟩
def hG (es : List HE) (i : Nat) : HE := es.getD i he0
theorem hG_set (es : List HE) (i j : Nat) (x : HE) (h : i < es.length) : hG (es.set i x) j = if i = j then x else hG es j := by
  unfold hG
  simp only [List.getD, List.getElem?_set, h]
  split <;> simp_all
theorem hG_mem {es : List HE} {i : Nat} (h : i < es.length) : hG es i ∈ es := by
  unfold hG
  rw [List.getD, List.getElem?_eq_getElem h]
  exact List.getElem_mem h
/-- No item is ahead of the one above it. -/
def HO (es : List HE) : Prop := ∀ c, 0 < c → c < es.length → ¬ hLt (hG es c) (hG es ((c - 1) / 2))
/-- The same, but for one place. -/
structure Hole (es : List HE) (i : Nat) : Prop where
  lt : i < es.length
  far : ∀ c, 0 < c → c < es.length → c ≠ i → (c - 1) / 2 ≠ i → ¬ hLt (hG es c) (hG es ((c - 1) / 2))
  grand : ∀ c, 0 < c → c < es.length → (c - 1) / 2 = i → 0 < i → ¬ hLt (hG es c) (hG es ((i - 1) / 2))
theorem HO.hole {es : List HE} (h : HO es) {i : Nat} (hi : i < es.length) : Hole es i :=
  ⟨hi, fun c h0 hc _ _ => h c h0 hc, fun c h0 hc hp hi0 => by
    have h1 := h c h0 hc
    rw [hp] at h1
    exact hGe_trans (h i hi0 hi) h1⟩
theorem Hole.up {es : List HE} {i : Nat} (h : Hole es i) (hi : 0 < i) : Hole (es.set i (hG es ((i - 1) / 2))) ((i - 1) / 2) := by
  have hil := h.lt
  have hpi : (i - 1) / 2 < i := by omega
  refine ⟨by rw [List.length_set]; omega, fun c h0 hc h1 h2 => ?_, fun c h0 hc hp hp0 => ?_⟩
  · rw [List.length_set] at hc
    rw [hG_set _ _ _ _ hil, hG_set _ _ _ _ hil]
    have hci : i ≠ c := by rintro rfl; exact h2 rfl
    rw [if_neg hci]
    split
    · rename_i hp
      exact h.grand c h0 hc hp.symm hi
    · rename_i hp
      exact h.far c h0 hc (Ne.symm hci) (Ne.symm hp)
  · rw [List.length_set] at hc
    rw [hG_set _ _ _ _ hil, hG_set _ _ _ _ hil, if_neg (show ¬ i = ((i - 1) / 2 - 1) / 2 by omega)]
    have hg : ¬ hLt (hG es ((i - 1) / 2)) (hG es (((i - 1) / 2 - 1) / 2)) := h.far ((i - 1) / 2) hp0 (by omega) (by omega) (by omega)
    split
    · exact hg
    · rename_i hci
      have h1 := h.far c h0 hc (Ne.symm hci) (by omega)
      rw [hp] at h1
      exact hGe_trans hg h1
/-- The least child. -/
structure Child (es : List HE) (i c : Nat) : Prop where
  pos : 0 < c
  lt : c < es.length
  par : (c - 1) / 2 = i
  least : ∀ d, 0 < d → d < es.length → (d - 1) / 2 = i → ¬ hLt (hG es d) (hG es c)
theorem Hole.down {es : List HE} {i c : Nat} (h : Hole es i) (hc : Child es i c) : Hole (es.set i (hG es c)) c := by
  have hil := h.lt
  have hcp := hc.par
  have hc0 := hc.pos
  refine ⟨by rw [List.length_set]; exact hc.lt, fun e h0 he h1 h2 => ?_, fun e h0 he hp hp0 => ?_⟩
  · rw [List.length_set] at he
    rw [hG_set _ _ _ _ hil, hG_set _ _ _ _ hil]
    by_cases hei : i = e
    · subst hei
      rw [if_pos rfl, if_neg (show ¬ i = (i - 1) / 2 by omega)]
      exact h.grand c hc0 hc.lt hcp h0
    · rw [if_neg hei]
      split
      · rename_i hp
        exact hc.least e h0 he hp.symm
      · rename_i hp
        exact h.far e h0 he (Ne.symm hei) (Ne.symm hp)
  · rw [List.length_set] at he
    rw [hG_set _ _ _ _ hil, hG_set _ _ _ _ hil, if_neg (show ¬ i = e by omega), if_pos hcp.symm]
    have h1 := h.far e h0 he (by omega) (by omega)
    rw [hp] at h1
    exact h1
/-- An item is laid into the hole. -/
theorem Hole.fill {es : List HE} {i : Nat} {x : HE} (h : Hole es i) (hu : i = 0 ∨ ¬ hLt x (hG es ((i - 1) / 2))) (hd : ∀ c, 0 < c → c < es.length → (c - 1) / 2 = i → ¬ hLt (hG es c) x) : HO (es.set i x) := by
  have hil := h.lt
  intro c h0 hc
  rw [List.length_set] at hc
  rw [hG_set _ _ _ _ hil, hG_set _ _ _ _ hil]
  by_cases hci : i = c
  · subst hci
    rw [if_pos rfl, if_neg (show ¬ i = (i - 1) / 2 by omega)]
    rcases hu with hu | hu
    · omega
    · exact hu
  · rw [if_neg hci]
    split
    · rename_i hp
      exact hd c h0 hc hp.symm
    · rename_i hp
      exact h.far c h0 hc (Ne.symm hci) (Ne.symm hp)
theorem HO.least {es : List HE} (h : HO es) : ∀ n j, j ≤ n → j < es.length → ¬ hLt (hG es j) (hG es 0) := by
  intro n
  induction n with
  | zero =>
    intro j hj _
    obtain rfl : j = 0 := by omega
    exact hLt_irrefl _
  | succ n ih =>
    intro j hj hl
    by_cases h0 : j = 0
    · subst h0; exact hLt_irrefl _
    · exact hGe_trans (ih ((j - 1) / 2) (by omega) (by omega)) (h j (by omega) hl)
theorem set_swap {es : List HE} {i j : Nat} (x : HE) (hi : i < es.length) (hj : j < es.length) (hij : i ≠ j) : List.Perm ((es.set i (hG es j)).set j x) (es.set i x) := by
  have hi' : i < (es.set i x).length := by rw [List.length_set]; exact hi
  have hj' : j < (es.set i x).length := by rw [List.length_set]; exact hj
  have h := List.set_set_perm hi' hj'
  have e1 : (es.set i x)[j] = hG es j := by
    rw [List.getElem_set_ne hij]
    unfold hG
    rw [List.getD, List.getElem?_eq_getElem hj]; rfl
  have e2 : (es.set i x)[i] = x := List.getElem_set_self _
  rw [e1, e2, List.set_set] at h
  exact h
/-! Items in their order. -/
def hIns (x : HE) : List HE → List HE
  | [] => [x]
  | y :: l => if hLt x y then x :: y :: l else y :: hIns x l
theorem hIns_perm (x : HE) : ∀ l : List HE, List.Perm (hIns x l) (x :: l)
  | [] => List.Perm.refl _
  | y :: l => by
    rw [hIns]
    split
    · exact List.Perm.refl _
    · exact ((hIns_perm x l).cons y).trans (List.Perm.swap x y l)
def HSorted (l : List HE) : Prop := l.Pairwise hLt
theorem hIns_sorted {x : HE} : ∀ {l : List HE}, HSorted l → (∀ y ∈ l, hLt x y ∨ hLt y x) → HSorted (hIns x l)
  | [], _, _ => List.pairwise_singleton _ _
  | y :: l, h, hx => by
    rw [HSorted, List.pairwise_cons] at h
    rw [hIns]
    split
    · rename_i hxy
      rw [HSorted, List.pairwise_cons]
      refine ⟨fun z hz => ?_, List.pairwise_cons.2 h⟩
      rcases List.mem_cons.1 hz with rfl | hz
      · exact hxy
      · exact hLt_trans hxy (h.1 z hz)
    · rename_i hxy
      rw [HSorted, List.pairwise_cons]
      refine ⟨fun z hz => ?_, hIns_sorted h.2 fun z hz => hx z (by simp [hz])⟩
      rcases List.mem_cons.1 ((hIns_perm x l).mem_iff.1 hz) with rfl | hz
      · exact (hx y (by simp)).resolve_left hxy
      · exact h.1 z hz
theorem sorted_unique : ∀ {l m : List HE}, HSorted l → HSorted m → List.Perm l m → l = m
  | [], m, _, _, hp => (List.nil_perm.1 hp).symm
  | x :: l, [], _, _, hp => absurd hp.symm (by simp)
  | x :: l, y :: m, h, h2, hp => by
    have h' := List.pairwise_cons.1 h
    have h2' := List.pairwise_cons.1 h2
    have e : x = y := by
      rcases List.mem_cons.1 (hp.mem_iff.1 (List.mem_cons_self)) with e | hx
      · exact e
      · rcases List.mem_cons.1 (hp.mem_iff.2 (List.mem_cons_self)) with e | hy
        · exact e.symm
        · exact absurd (h2'.1 x hx) (hLt_asymm (h'.1 y hy))
    subst e
    rw [sorted_unique h'.2 h2'.2 (List.Perm.cons_inv hp)]
theorem HO.head {es : List HE} {y : HE} {l : List HE} (h : HO es) (hp : List.Perm es (y :: l)) (hs : HSorted (y :: l)) : hG es 0 = y ∧ 0 < es.length := by
  have hl : 0 < es.length := by rw [hp.length_eq]; simp
  refine ⟨?_, hl⟩
  have hm : hG es 0 ∈ y :: l := hp.mem_iff.1 (hG_mem hl)
  rcases List.mem_cons.1 hm with e | hm
  · exact e
  · have h1 := (List.pairwise_cons.1 hs).1 _ hm
    obtain ⟨j, hj, he⟩ := List.mem_iff_getElem.1 (hp.mem_iff.2 (List.mem_cons_self (a := y) (l := l)))
    have h2 := h.least j j (Nat.le_refl _) hj
    have e : hG es j = y := by
      unfold hG
      rw [List.getD, List.getElem?_eq_getElem hj]
      exact he
    rw [e] at h2
    exact absurd h1 h2
/-! The map of the places. -/
theorem keys_apart {es : List HE} {j k : Nat} (hn : (es.map (·.key)).Nodup) (hj : j < es.length) (hk : k < es.length) (hjk : j ≠ k) : (hG es j).key ≠ (hG es k).key := by
  intro h
  have e : ∀ i, (hi : i < es.length) → (hG es i).key = (es.map (·.key))[i]'(by rw [List.length_map]; exact hi) := fun i hi => by
    unfold hG
    rw [List.getD, List.getElem?_eq_getElem hi, List.getElem_map]; rfl
  rw [e j hj, e k hk] at h
  exact hjk ((List.getElem_inj hn).1 h)
/-- What holds while an item is moved. -/
structure HSt (es : List HE) (i : Nat) (x : HE) (m : Assoc) (base : List HE) : Prop where
  hole : Hole es i
  perm : List.Perm (es.set i x) base
  knd : (base.map (·.key)).Nodup
  has : ∀ k, m.has k = true ↔ k ∈ base.map (·.key)
  get : ∀ j, j < es.length → j ≠ i → m.get (hG es j).key = some (.int .i64 (j : Nat))
theorem HSt.move {es : List HE} {i c : Nat} {x : HE} {m : Assoc} {base : List HE} (h : HSt es i x m base) (hc : c < es.length) (hci : c ≠ i) (hole : Hole (es.set i (hG es c)) c) :
    HSt (es.set i (hG es c)) c x (m.put (hG es c).key (.int .i64 (i : Nat))) base := by
  have hil := h.hole.lt
  have hnd : ((es.set i x).map (·.key)).Nodup := (h.perm.map (·.key)).nodup_iff.2 h.knd
  have hG' : ∀ j, j ≠ i → hG (es.set i x) j = hG es j := fun j hj => by rw [hG_set _ _ _ _ hil, if_neg (Ne.symm hj)]
  refine ⟨hole, (set_swap x hil hc (Ne.symm hci)).trans h.perm, h.knd, fun k => ?_, fun j hj hjc => ?_⟩
  · rw [as_has_put, Bool.or_eq_true, h.has, decide_eq_true_iff]
    constructor
    · rintro (hk | rfl)
      · exact hk
      · refine (h.perm.map (·.key)).mem_iff.1 (List.mem_map_of_mem ?_)
        rw [← hG' c hci]
        exact hG_mem (by rw [List.length_set]; exact hc)
    · exact .inl
  · rw [List.length_set] at hj
    rw [hG_set _ _ _ _ hil, as_get_put]
    by_cases hji : i = j
    · subst hji
      rw [if_pos rfl, if_pos rfl]
    · rw [if_neg hji, if_neg, h.get j hj (Ne.symm hji)]
      have := keys_apart hnd (j := c) (k := j) (by rw [List.length_set]; exact hc) (by rw [List.length_set]; exact hj) (Ne.symm hjc)
      rw [hG' c hci, hG' j (Ne.symm hji)] at this
      exact this
theorem HSt.up {es : List HE} {i : Nat} {x : HE} {m : Assoc} {base : List HE} (h : HSt es i x m base) (hi : 0 < i) : HSt (es.set i (hG es ((i - 1) / 2))) ((i - 1) / 2) x (m.put (hG es ((i - 1) / 2)).key (.int .i64 (i : Nat))) base :=
  h.move (by have := h.hole.lt; omega) (by omega) (h.hole.up hi)
theorem HSt.down {es : List HE} {i c : Nat} {x : HE} {m : Assoc} {base : List HE} (h : HSt es i x m base) (hc : Child es i c) : HSt (es.set i (hG es c)) c x (m.put (hG es c).key (.int .i64 (i : Nat))) base :=
  h.move hc.lt (by have := hc.par; have := hc.pos; omega) (h.hole.down hc)
/-- A heap of items, by their ranks. -/
structure HOk (es : List HE) (m : Assoc) (srt : List HE) (came : Int) : Prop where
  ho : HO es
  perm : List.Perm es srt
  sorted : HSorted srt
  knd : (srt.map (·.key)).Nodup
  cames : ∀ x ∈ srt, x.came ≤ came
  has : ∀ k, m.has k = true ↔ k ∈ srt.map (·.key)
  get : ∀ j, j < es.length → m.get (hG es j).key = some (.int .i64 (j : Nat))
theorem HSt.fill {es : List HE} {i : Nat} {x : HE} {m : Assoc} {srt : List HE} {came : Int} (h : HSt es i x m srt) (hs : HSorted srt) (hcm : ∀ x ∈ srt, x.came ≤ came) (hu : i = 0 ∨ ¬ hLt x (hG es ((i - 1) / 2))) (hd : ∀ c, 0 < c → c < es.length → (c - 1) / 2 = i → ¬ hLt (hG es c) x) :
    HOk (es.set i x) (m.put x.key (.int .i64 (i : Nat))) srt came := by
  have hil := h.hole.lt
  have hnd : ((es.set i x).map (·.key)).Nodup := (h.perm.map (·.key)).nodup_iff.2 h.knd
  have hx : hG (es.set i x) i = x := by rw [hG_set _ _ _ _ hil, if_pos rfl]
  refine ⟨h.hole.fill hu hd, h.perm, hs, h.knd, hcm, fun k => ?_, fun j hj => ?_⟩
  · rw [as_has_put, Bool.or_eq_true, h.has, decide_eq_true_iff]
    constructor
    · rintro (hk | rfl)
      · exact hk
      · refine (h.perm.map (·.key)).mem_iff.1 (List.mem_map_of_mem ?_)
        have := hG_mem (es := es.set i x) (i := i) (by rw [List.length_set]; exact hil)
        rwa [hx] at this
    · exact .inl
  · rw [as_get_put]
    by_cases hji : i = j
    · subst hji
      rw [hx, if_pos rfl]
    · have := keys_apart hnd (j := i) (k := j) (by rw [List.length_set]; exact hil) hj hji
      rw [hx] at this
      rw [if_neg this, hG_set _ _ _ _ hil, if_neg hji]
      exact h.get j (by rw [List.length_set] at hj; exact hj) (Ne.symm hji)
theorem HOk.new : HOk [] [] [] 0 := ⟨fun c h0 hc => by simp at hc, List.Perm.refl _, List.Pairwise.nil, List.nodup_nil, by simp, fun k => by simp [Assoc.has], fun j hj => by simp at hj⟩
theorem HOk.len {es m srt came} (h : HOk es m srt came) : es.length = srt.length := h.perm.length_eq
theorem HOk.esnd {es m srt came} (h : HOk es m srt came) : (es.map (·.key)).Nodup := (h.perm.map (·.key)).nodup_iff.2 h.knd
end Go.Proofs.YtbbdimlpofjlfaaGreatDoor
/- What the policies do, with no program in sight. -/
namespace Go.Proofs.YtbbdimlpofjlfaaGreatDoor
open Go Go.RowKit

instance : LawfulBEq ByteArray where
  eq_of_beq {a b} h := by
    rw [beq_bytes] at h
    exact of_decide_eq_true h
  rfl {a} := by
    rw [beq_bytes]
    exact decide_eq_true rfl
/-! ### Maps with texts as keys, of values of a type. -/
abbrev TMap (α : Type) := List (ByteArray × α)
def TMap.get {α : Type} (l : TMap α) (k : ByteArray) : Option α := (l.find? fun p => decide (p.1 = k)).map (·.2)
def TMap.has {α : Type} (l : TMap α) (k : ByteArray) : Bool := l.any fun p => decide (p.1 = k)
def TMap.put {α : Type} (l : TMap α) (k : ByteArray) (v : α) : TMap α := if l.has k then l.map (fun p => if p.1 = k then (k, v) else p) else l ++ [(k, v)]
def TMap.del {α : Type} (l : TMap α) (k : ByteArray) : TMap α := l.filter fun p => !decide (p.1 = k)
/-- How it stands in memory. -/
def TMap.enc {α : Type} (f : α → Value) (l : TMap α) : Assoc := l.map fun p => (p.1, f p.2)
theorem TMap.enc_has {α : Type} (f : α → Value) (l : TMap α) (k : ByteArray) : Assoc.has (l.enc f) k = l.has k := by
  unfold Assoc.has TMap.has TMap.enc
  rw [List.any_map]
  rfl
theorem TMap.enc_get {α : Type} (f : α → Value) (l : TMap α) (k : ByteArray) : Assoc.get (l.enc f) k = (l.get k).map f := by
  unfold Assoc.get TMap.get TMap.enc
  induction l with
  | nil => rfl
  | cons p l ih =>
    rw [List.map_cons, List.find?_cons, List.find?_cons]
    by_cases h : p.1 = k
    · simp [h]
    · simp only [h, decide_false]
      exact ih
theorem TMap.enc_put {α : Type} (f : α → Value) (l : TMap α) (k : ByteArray) (v : α) : Assoc.put (l.enc f) k (f v) = TMap.enc f (l.put k v) := by
  unfold Assoc.put TMap.put
  rw [TMap.enc_has]
  split
  · unfold TMap.enc
    rw [List.map_map, List.map_map]
    refine List.map_congr_left fun p _ => ?_
    simp only [Function.comp_apply]
    split <;> rfl
  · unfold TMap.enc
    rw [List.map_append]
    rfl
theorem TMap.enc_del {α : Type} (f : α → Value) (l : TMap α) (k : ByteArray) : Assoc.del (l.enc f) k = TMap.enc f (l.del k) := by
  unfold Assoc.del TMap.del TMap.enc
  rw [List.filter_map]
  rfl

/-! ### A row of keys. -/
def bNil : ByteArray := ⟨#[]⟩
def kDel (ks : List ByteArray) (k : ByteArray) : List ByteArray := ks.filter fun c => !decide (c = k)
def kFront (ks : List ByteArray) (k : ByteArray) : List ByteArray := k :: kDel ks k
def kBack (ks : List ByteArray) (k : ByteArray) : List ByteArray := kDel ks k ++ [k]
def kLast (ks : List ByteArray) : ByteArray := ks.getLast?.getD bNil
def kFirst (ks : List ByteArray) : ByteArray := ks.head?.getD bNil
theorem kDel_mid {l1 l2 : List ByteArray} {k : ByteArray} (h : (l1 ++ k :: l2).Nodup) : kDel (l1 ++ k :: l2) k = l1 ++ l2 := by
  have h1 : ∀ c ∈ l1, c ≠ k := fun c hc he => by
    subst he
    rw [List.nodup_append] at h
    exact h.2.2 c hc c (by simp) rfl
  have h2 : ∀ c ∈ l2, c ≠ k := fun c hc he => by
    subst he
    rw [List.nodup_append, List.nodup_cons] at h
    exact h.2.1.1 hc
  unfold kDel
  rw [List.filter_append, List.filter_cons, List.filter_eq_self.2 (fun c hc => by simp [h1 c hc]), List.filter_eq_self.2 (fun c hc => by simp [h2 c hc])]
  simp
theorem kDel_none {l : List ByteArray} {k : ByteArray} (h : k ∉ l) : kDel l k = l := List.filter_eq_self.2 fun c hc => by
  have : c ≠ k := fun he => h (he ▸ hc)
  simp [this]
theorem kDel_nodup {l : List ByteArray} (k : ByteArray) (h : l.Nodup) : (kDel l k).Nodup := h.filter _
theorem kDel_mem {l : List ByteArray} {k c : ByteArray} : c ∈ kDel l k ↔ c ∈ l ∧ c ≠ k := by
  unfold kDel
  rw [List.mem_filter]
  simp
theorem kFront_nodup {l : List ByteArray} (k : ByteArray) (h : l.Nodup) : (kFront l k).Nodup := List.nodup_cons.2 ⟨fun hm => (kDel_mem.1 hm).2 rfl, kDel_nodup k h⟩

/-! ### A step. -/
structure Stp where
  hit : Bool
  victim : ByteArray
  out : Bool

/-! ### lru -/
structure Lru where
  most : Nat
  ks : List ByteArray
def Lru.req (s : Lru) (k : ByteArray) : Lru × Stp :=
  if s.most = 0 then (s, ⟨decide (k ∈ s.ks), bNil, false⟩)
  else if k ∈ s.ks then (⟨s.most, kFront s.ks k⟩, ⟨true, bNil, false⟩)
  else if s.most ≤ s.ks.length then (⟨s.most, kFront s.ks.dropLast k⟩, ⟨false, kLast s.ks, true⟩)
  else (⟨s.most, kFront s.ks k⟩, ⟨false, bNil, false⟩)
def Lru.adopt (s : Lru) (k : ByteArray) : Lru × Bool := if k ∈ s.ks ∨ s.most ≤ s.ks.length then (s, false) else (⟨s.most, kFront s.ks k⟩, true)
def Lru.resize (s : Lru) (most : Nat) : Lru × List ByteArray := (⟨most, s.ks.take most⟩, (s.ks.drop most).reverse)

/-! ### lfu -/
structure Lfu where
  most : Nat
  now : Int
  churn : Bool
  srt : List HE
  came : Int
def hFind (srt : List HE) (k : ByteArray) : Option HE := srt.find? fun e => decide (e.key = k)
def hDel (srt : List HE) (k : ByteArray) : List HE := srt.filter fun e => !decide (e.key = k)
def hSet (srt : List HE) (came : Int) (k : ByteArray) (one two : Int) : List HE := hIns ⟨k, one, two, came + 1⟩ (hDel srt k)
def hKeys (srt : List HE) : List ByteArray := srt.map (·.key)
def hFirst (srt : List HE) : ByteArray := (srt.head?.map (·.key)).getD bNil
def Lfu.times (s : Lfu) (k : ByteArray) : Int := ((hFind s.srt k).map (·.one)).getD 0
def Lfu.has (s : Lfu) (k : ByteArray) : Bool := decide (0 < s.times k)
def Lfu.ask (s : Lfu) (k : ByteArray) : Lfu :=
  ⟨s.most, s.now + 1, s.churn, hSet s.srt s.came k (s.times k + 1) (if s.churn then -(s.now + 1) else s.now + 1), s.came + 1⟩
def Lfu.pop (s : Lfu) : Lfu := ⟨s.most, s.now, s.churn, s.srt.tail, s.came⟩
def Lfu.req (s : Lfu) (k : ByteArray) : Lfu × Stp :=
  if s.most = 0 then (s, ⟨s.has k, bNil, false⟩)
  else if s.has k then (s.ask k, ⟨true, bNil, false⟩)
  else if s.most ≤ s.srt.length then (s.pop.ask k, ⟨false, hFirst s.srt, true⟩)
  else (s.ask k, ⟨false, bNil, false⟩)
def Lfu.adopt (s : Lfu) (k : ByteArray) : Lfu × Bool := if s.has k = true ∨ s.most ≤ s.srt.length then (s, false) else (s.ask k, true)
def Lfu.remove (s : Lfu) (k : ByteArray) : Lfu := ⟨s.most, s.now, s.churn, hDel s.srt k, s.came⟩
def Lfu.resize (s : Lfu) (most : Nat) : Lfu × List ByteArray := (⟨most, s.now, s.churn, s.srt.drop (s.srt.length - most), s.came⟩, hKeys (s.srt.take (s.srt.length - most)))

/-! ### srlru -/
structure Sr where
  most : Nat
  target : Nat
  n : List ByteArray
  a : List ByteArray
  g : List ByteArray
  marks : TMap (Bool × Bool)
def Sr.has (s : Sr) (k : ByteArray) : Bool := decide (k ∈ s.n) || decide (k ∈ s.a)
def Sr.len (s : Sr) : Nat := s.n.length + s.a.length
def Sr.row (s : Sr) : List ByteArray := if 0 < s.n.length then s.n else s.a
/-- The row's last one is off. -/
def Sr.popRow (s : Sr) : Sr := if 0 < s.n.length then { s with n := s.n.dropLast } else { s with a := s.a.dropLast }
def Sr.drop (s : Sr) : Sr := if s.row = [] then s else { s.popRow with marks := s.marks.del (kLast s.row) }
def delAll {α : Type} (m : TMap α) (l : List ByteArray) : TMap α := l.foldl (fun m k => m.del k) m
def Sr.trim (s : Sr) : Sr := { s with g := s.g.take s.most, marks := delAll s.marks (s.g.drop s.most).reverse }
def Sr.evict (s : Sr) : Sr := if s.row = [] then s else Sr.trim { s.popRow with g := kFront s.g (kLast s.row) }
/-- Keys that come to the front of the first row, told as old and moved there. -/
def Sr.demote (s : Sr) (l : List ByteArray) : Sr := l.foldl (fun s k => { s with n := kFront s.n k, marks := s.marks.put k (true, true) }) s
def Sr.again (s : Sr) (k : ByteArray) : Sr :=
  let a := kFront s.a k
  let s := { s with a := a.take (max s.target 1), marks := s.marks.put k (true, false) }
  s.demote (a.drop (max s.target 1)).reverse
def Sr.req (s : Sr) (k : ByteArray) : Sr × Stp :=
  if s.most = 0 then (s, ⟨s.has k, bNil, false⟩)
  else if k ∈ s.a then ({ s with a := kFront s.a k }, ⟨true, bNil, false⟩)
  else if k ∈ s.n then
    (Sr.again { s with target := if ((s.marks.get k).getD (false, false)).2 then min (s.target + 1) s.most else s.target, n := kDel s.n k } k, ⟨true, bNil, false⟩)
  else
    let known := s.marks.has k
    let s1 : Sr := { s with target := if known = true ∧ ((s.marks.get k).getD (false, false)).1 = false ∧ 1 < s.target then s.target - 1 else s.target, g := kDel s.g k }
    let full := decide (s1.most ≤ s1.len)
    let s2 := if full then s1.evict else s1
    let st : Stp := if full then ⟨false, kLast s1.row, !s1.row.isEmpty⟩ else ⟨false, bNil, false⟩
    if known then (s2.again k, st) else ({ s2 with n := kFront s2.n k, marks := s2.marks.put k (false, false) }, st)
def Sr.remove (s : Sr) (k : ByteArray) : Sr := { s with n := kDel s.n k, a := if k ∈ s.n then s.a else kDel s.a k, g := kDel s.g k, marks := s.marks.del k }
def Sr.adopt (s : Sr) (k : ByteArray) : Sr × Bool :=
  if s.has k = true ∨ s.most ≤ s.len then (s, false) else ({ s with g := kDel s.g k, n := kFront s.n k, marks := s.marks.put k (false, false) }, true)
def Sr.evictN : Nat → Sr → Sr × List ByteArray
  | 0, s => (s, [])
  | i + 1, s => ((Sr.evictN i s.evict).1, kLast s.row :: (Sr.evictN i s.evict).2)
def Sr.resize (s : Sr) (most : Nat) : Sr × List ByteArray :=
  let s1 := { s with most := most, target := min s.target most }
  let r := Sr.evictN (s1.len - most) s1
  (r.1.trim, r.2)
def Sr.keys (s : Sr) : List ByteArray := s.n.reverse ++ s.a.reverse
end Go.Proofs.YtbbdimlpofjlfaaGreatDoor
