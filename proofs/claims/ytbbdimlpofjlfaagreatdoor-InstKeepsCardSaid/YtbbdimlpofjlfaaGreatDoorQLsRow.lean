/- A list of keys in memory. -/
import Derived.Test.YtbbdimlpofjlfaaGreatDoorQLsMath
import Derived.Test.YtbbdimlpofjlfaaGreatDoorQRow
import Derived.Test.YtbbdimlpofjlfaaGreatDoorQMap2
import Derived.Test.YtbbdimlpofjlfaaGreatDoorQQuiet
import Derived.Test.YtbbdimlpofjlfaaGreatDoorProg
import Derived.Outline
import Derived.WideLaws
namespace Go.Proofs.YtbbdimlpofjlfaaGreatDoor
open Go Go.RowKit

theorem LOk.find {a e m is ks} {key : ByteArray} (h : LOk a e m is ks) (hk : key ∈ ks) : ∃ l1 i l2, is = l1 ++ i :: l2 ∧ plK a i = key ∧ m.get key = some (.int .i64 (i : Nat)) ∧ i < a.length := by
  rw [← h.key] at hk
  obtain ⟨i, hi, rfl⟩ := List.mem_map.1 hk
  obtain ⟨l1, l2, rfl⟩ := List.append_of_mem hi
  exact ⟨l1, i, l2, rfl, rfl, h.get i hi, h.lt i (by simp)⟩
theorem LOk.hasF {a e m is ks} {key : ByteArray} (h : LOk a e m is ks) (hk : key ∉ ks) : m.has key = false := by
  cases hm : m.has key
  · rfl
  · exact absurd ((h.has key).1 hm) hk
theorem LOk.kdel {a e m is ks} {l1 l2 : List Nat} {i : Nat} (h : LOk a e m is ks) (his : is = l1 ++ i :: l2) : l1.map (plK a) ++ l2.map (plK a) = kDel ks (plK a i) := by
  have hks : ks = l1.map (plK a) ++ plK a i :: l2.map (plK a) := by rw [← h.key, his, List.map_append, List.map_cons]
  have hn := h.knd
  rw [hks] at hn ⊢
  exact (kDel_mid hn).symm
/-- The first one's place, and the last one's. -/
theorem LOk.ends {a e m is ks} (h : LOk a e m is ks) : plK a (plN a 0) = kFirst ks ∧ plK a (plL a 0) = kLast ks ∧ plN a 0 < a.length ∧ plL a 0 < a.length := by
  have hp := h.pos
  rw [← h.key]
  unfold kFirst kLast
  have hr := h.ring
  constructor
  · cases is with
    | nil =>
      rw [show plN a 0 = 0 from hr.1]
      exact h.zero
    | cons i is => rw [show plN a 0 = i from hr.1]; rfl
  · have hL : plL a 0 = (0 :: is).getLast (by simp) := by
      obtain ⟨P, z, hP⟩ := snoc_of 0 is
      have e1 : 0 :: (is ++ [0]) = P ++ z :: [0] := by rw [← List.cons_append, hP]; simp
      rw [e1] at hr
      have := hr.parts.2
      rw [this.2.1]
      have : (0 :: is).getLast (by simp) = (P ++ [z]).getLast (by simp) := by simp only [hP]
      rw [this]
      simp
    have hN : plN a 0 < a.length := by
      cases is with
      | nil => rw [show plN a 0 = 0 from hr.1]; exact hp
      | cons i is => rw [show plN a 0 = i from hr.1]; exact h.lt i (by simp)
    rw [hL]
    refine ⟨?_, hN, ?_⟩
    · cases is with
      | nil => exact h.zero
      | cons i is => rw [List.getLast?_map, List.getLast?_eq_some_getLast (List.cons_ne_nil i is), List.getLast_cons (by simp)]; rfl
    · cases is with
      | nil => exact hp
      | cons i is => exact h.lt _ (by rw [List.getLast_cons (by simp)]; exact List.mem_append.2 (.inl (List.getLast_mem _)))
/-! The cells of an arena. -/
def plCells (a : List Plc) : List Value := a.flatMap fun p => [.string p.key, .int .i64 (p.next : Nat), .int .i64 (p.last : Nat)]
theorem plCells_length : ∀ a : List Plc, (plCells a).length = a.length * 3
  | [] => rfl
  | p :: a => by
    have := plCells_length a
    unfold plCells at this ⊢
    rw [List.flatMap_cons, List.length_append, this, List.length_cons]
    simp
    omega
theorem plCells_get : ∀ (a : List Plc) (i : Nat), i < a.length → (plCells a)[i * 3]? = some (.string (plK a i)) ∧ (plCells a)[i * 3 + 1]? = some (.int .i64 (plN a i : Nat)) ∧ (plCells a)[i * 3 + 2]? = some (.int .i64 (plL a i : Nat))
  | [], i, h => by simp at h
  | p :: a, 0, _ => ⟨rfl, rfl, rfl⟩
  | p :: a, i + 1, h => by
    have := plCells_get a i (by simpa using h)
    rw [show (i + 1) * 3 = i * 3 + 3 by omega]
    exact this
theorem plCells_set : ∀ (a : List Plc) (i : Nat) (p : Plc), i < a.length → plCells (a.set i p) = (((plCells a).set (i * 3) (.string p.key)).set (i * 3 + 1) (.int .i64 (p.next : Nat))).set (i * 3 + 2) (.int .i64 (p.last : Nat))
  | [], i, _, h => by simp at h
  | _ :: _, 0, _, _ => rfl
  | q :: a, i + 1, p, h => by
    have := plCells_set a i p (by simpa using h)
    rw [show (i + 1) * 3 = i * 3 + 3 by omega]
    unfold plCells at this ⊢
    rw [List.set_cons_succ, List.flatMap_cons, List.flatMap_cons, this]
    rfl
theorem set_same {l : List Value} {i : Nat} {v : Value} (h : l[i]? = some v) : l.set i v = l := by
  obtain ⟨h1, h2⟩ := List.getElem?_eq_some_iff.1 h
  rw [← h2]
  exact List.set_getElem_self h1
theorem plCells_sN (a : List Plc) (i v : Nat) (h : i < a.length) : plCells (sN a i v) = (plCells a).set (i * 3 + 1) (.int .i64 (v : Nat)) := by
  obtain ⟨h0, h1, h2⟩ := plCells_get a i h
  unfold sN
  rw [plCells_set a i _ h, set_same h0, set_same]
  rw [List.getElem?_set_ne (by omega)]
  exact h2
theorem plCells_sL (a : List Plc) (i v : Nat) (h : i < a.length) : plCells (sL a i v) = (plCells a).set (i * 3 + 2) (.int .i64 (v : Nat)) := by
  obtain ⟨h0, h1, h2⟩ := plCells_get a i h
  unfold sL
  rw [plCells_set a i _ h, set_same h0, set_same h1]
theorem plCells_push (a : List Plc) : plCells (a ++ [plc0]) = plCells a ++ [.string ⟨#[]⟩, .int .i64 0, .int .i64 0] := by
  unfold plCells
  rw [List.flatMap_append]
  rfl
def nInts (l : List Nat) : List Value := l.map fun i => .int .i64 (i : Nat)
/-- A list of keys at block b. -/
def IsList (b : Nat) (ks : List ByteArray) : SProp := fun h => ∃ a e m is va ve mb, (LOk a e m is ks ∧ a.length ≤ 1000000) ∧
  All [pts b (.cells #[va, ve, .map (some mb)] 240), OwnRow 318 3 va a.length (plCells a), OwnRow 3 1 ve e.length (nInts e), OwnMap mb m] h
section
variable {g w : World} {b : Nat} {ks : List ByteArray} {F : List SProp}
theorem Holds.isList (h : Holds g w (IsList b ks :: F)) : ∃ a e m is va ve mb, LOk a e m is ks ∧ a.length ≤ 1000000 ∧
    Holds g w (pts b (.cells #[va, ve, .map (some mb)] 240) :: OwnRow 318 3 va a.length (plCells a) :: OwnRow 3 1 ve e.length (nInts e) :: OwnMap mb m :: F) := by
  obtain ⟨a, h⟩ := h.unex
  obtain ⟨e, h⟩ := h.unex
  obtain ⟨m, h⟩ := h.unex
  obtain ⟨is, h⟩ := h.unex
  obtain ⟨va, h⟩ := h.unex
  obtain ⟨ve, h⟩ := h.unex
  obtain ⟨mb, h⟩ := h.unex
  obtain ⟨⟨h1, h2⟩, h⟩ := h.unfact
  exact ⟨a, e, m, is, va, ve, mb, h1, h2, h.unall⟩
theorem Holds.toList {a : List Plc} {e : List Nat} {m : Assoc} {is : List Nat} {va ve : Value} {mb : Nat} (h1 : LOk a e m is ks) (h2 : a.length ≤ 1000000)
    (h : Holds g w (pts b (.cells #[va, ve, .map (some mb)] 240) :: OwnRow 318 3 va a.length (plCells a) :: OwnRow 3 1 ve e.length (nInts e) :: OwnMap mb m :: F)) : Holds g w (IsList b ks :: F) := by
  have h' : Holds g w (All [pts b (.cells #[va, ve, .map (some mb)] 240), OwnRow 318 3 va a.length (plCells a), OwnRow 3 1 ve e.length (nInts e), OwnMap mb m] :: F) := Holds.all h
  exact h'.head fun x hx => ⟨a, e, m, is, va, ve, mb, ⟨h1, h2⟩, hx⟩
end
end Go.Proofs.YtbbdimlpofjlfaaGreatDoor
/- A heap's calls, with no program in sight. -/
namespace Go.Proofs.YtbbdimlpofjlfaaGreatDoor
open Go Go.RowKit

theorem hG_at {l1 l2 : List HE} {y : HE} {i : Nat} (hi : l1.length = i) : hG (l1 ++ y :: l2) i = y := by
  unfold hG
  rw [List.getD, List.getElem?_append_right (by omega), ← hi, Nat.sub_self]
  rfl
theorem split_idx (es : List HE) (i : Nat) (hi : i < es.length) : ∃ l1 l2, es = l1 ++ hG es i :: l2 ∧ l1.length = i := by
  refine ⟨es.take i, es.drop (i + 1), ?_, by rw [List.length_take]; omega⟩
  have : hG es i = es[i] := by unfold hG; rw [List.getD, List.getElem?_eq_getElem hi]; rfl
  rw [this, List.getElem_cons_drop]
  exact (List.take_append_drop i es).symm
theorem set_idx {l1 l2 : List HE} {y x : HE} {i : Nat} (hi : l1.length = i) : (l1 ++ y :: l2).set i x = l1 ++ x :: l2 := by
  rw [List.set_append_right _ _ (by omega), ← hi, Nat.sub_self]
  rfl
theorem hDel_mid {l1 l2 : List HE} {y : HE} (h : ((l1 ++ y :: l2).map (·.key)).Nodup) : hDel (l1 ++ y :: l2) y.key = l1 ++ l2 := by
  rw [List.map_append, List.map_cons] at h
  have h1 : ∀ c ∈ l1, c.key ≠ y.key := fun c hc he => by
    rw [List.nodup_append] at h
    exact h.2.2 c.key (List.mem_map_of_mem hc) y.key (by simp) he
  have h2 : ∀ c ∈ l2, c.key ≠ y.key := fun c hc he => by
    rw [List.nodup_append, List.nodup_cons] at h
    exact h.2.1.1 (he ▸ List.mem_map_of_mem hc)
  unfold hDel
  rw [List.filter_append, List.filter_cons, List.filter_eq_self.2 (fun c hc => by simp [h1 c hc]), List.filter_eq_self.2 (fun c hc => by simp [h2 c hc])]
  simp
theorem hDel_none {l : List HE} {k : ByteArray} (h : k ∉ l.map (·.key)) : hDel l k = l := List.filter_eq_self.2 fun c hc => by
  have : c.key ≠ k := fun he => h (he ▸ List.mem_map_of_mem hc)
  simp [this]
theorem hDel_perm {l m : List HE} (k : ByteArray) (h : List.Perm l m) : List.Perm (hDel l k) (hDel m k) := h.filter _
theorem hDel_keys {l : List HE} {k c : ByteArray} : c ∈ (hDel l k).map (·.key) ↔ c ∈ l.map (·.key) ∧ c ≠ k := by
  unfold hDel
  simp only [List.mem_map, List.mem_filter]
  constructor
  · rintro ⟨x, ⟨h1, h2⟩, rfl⟩
    exact ⟨⟨x, h1, rfl⟩, by simpa using h2⟩
  · rintro ⟨⟨x, h1, rfl⟩, h2⟩
    exact ⟨x, ⟨h1, by simpa using h2⟩, rfl⟩
theorem hDel_knd {l : List HE} (k : ByteArray) (h : (l.map (·.key)).Nodup) : ((hDel l k).map (·.key)).Nodup := List.Nodup.sublist (List.Sublist.map _ List.filter_sublist) h
theorem hSet_keys {srt : List HE} {came : Int} {k c : ByteArray} {one two : Int} : c ∈ (hSet srt came k one two).map (·.key) ↔ c = k ∨ (c ∈ srt.map (·.key) ∧ c ≠ k) := by
  unfold hSet
  rw [((hIns_perm _ _).map (·.key)).mem_iff, List.map_cons, List.mem_cons, hDel_keys]
theorem hSet_knd {srt : List HE} {came : Int} {k : ByteArray} {one two : Int} (h : (srt.map (·.key)).Nodup) : ((hSet srt came k one two).map (·.key)).Nodup := by
  refine (((hIns_perm _ _).map (·.key)).nodup_iff).2 ?_
  rw [List.map_cons, List.nodup_cons]
  exact ⟨fun hm => (hDel_keys.1 hm).2 rfl, hDel_knd k h⟩
theorem hSet_sorted {srt : List HE} {came : Int} {k : ByteArray} {one two : Int} (h : HSorted srt) (hc : ∀ x ∈ srt, x.came ≤ came) : HSorted (hSet srt came k one two) := by
  refine hIns_sorted (List.Pairwise.filter _ h) fun y hy => ?_
  have := hc y (List.mem_filter.1 hy).1
  unfold hLt
  dsimp only
  omega
theorem hSet_cames {srt : List HE} {came : Int} {k : ByteArray} {one two : Int} (hc : ∀ x ∈ srt, x.came ≤ came) : ∀ x ∈ hSet srt came k one two, x.came ≤ came + 1 := by
  intro x hx
  rcases List.mem_cons.1 ((hIns_perm _ _).mem_iff.1 hx) with rfl | hx
  · exact Int.le_refl _
  · have := hc x (List.mem_filter.1 hx).1
    omega
theorem Hole.set {es : List HE} {i : Nat} (h : Hole es i) (x : HE) : Hole (es.set i x) i := by
  have hil := h.lt
  refine ⟨by rw [List.length_set]; exact hil, fun c h0 hc h1 h2 => ?_, fun c h0 hc hp hi0 => ?_⟩
  · rw [List.length_set] at hc
    rw [hG_set _ _ _ _ hil, hG_set _ _ _ _ hil, if_neg (Ne.symm h1), if_neg (Ne.symm h2)]
    exact h.far c h0 hc h1 h2
  · rw [List.length_set] at hc
    rw [hG_set _ _ _ _ hil, hG_set _ _ _ _ hil, if_neg (show ¬ i = c by omega), if_neg (show ¬ i = (i - 1) / 2 by omega)]
    exact h.grand c h0 hc hp hi0
theorem hG_append {es : List HE} {x : HE} {j : Nat} (hj : j < es.length) : hG (es ++ [x]) j = hG es j := by
  unfold hG
  rw [List.getD, List.getD, List.getElem?_append_left hj]
theorem hG_take {es : List HE} {n j : Nat} (hj : j < n) : hG (es.take n) j = hG es j := by
  unfold hG
  rw [List.getD, List.getD, List.getElem?_take_of_lt hj]
/-- A rank is set: of a key that is there. -/
theorem HOk.setOld {es m srt came} {i : Nat} {k : ByteArray} (one two : Int) (h : HOk es m srt came) (hi : i < es.length) (hk : (hG es i).key = k) :
    HSt (es.set i ⟨k, one, two, came + 1⟩) i ⟨k, one, two, came + 1⟩ (m.put k (.int .i64 (i : Nat))) (hSet srt came k one two) := by
  obtain ⟨l1, l2, hes, hl⟩ := split_idx es i hi
  obtain ⟨y, hy⟩ : ∃ y, hG es i = y := ⟨_, rfl⟩
  have hmem := hG_mem hi
  rw [hy] at hk hes hmem
  subst hk
  have hnd := h.esnd
  have hap : ∀ j, j < es.length → j ≠ i → y.key ≠ (hG es j).key := fun j hj hji => by rw [← hy]; exact keys_apart hnd hi hj (Ne.symm hji)
  have hp : List.Perm (es.set i ⟨y.key, one, two, came + 1⟩) (hSet srt came y.key one two) := by
    have e1 : es.set i ⟨y.key, one, two, came + 1⟩ = l1 ++ ⟨y.key, one, two, came + 1⟩ :: l2 := by
      conv => lhs; rw [hes]
      exact set_idx hl
    have e2 : hDel es y.key = l1 ++ l2 := by
      rw [hes] at hnd
      have := hDel_mid hnd
      rwa [← hes] at this
    rw [e1]
    refine List.perm_middle.trans ?_
    rw [← e2]
    exact ((hDel_perm _ h.perm).cons _).trans (hIns_perm _ _).symm
  refine ⟨(h.ho.hole hi).set _, by rw [List.set_set]; exact hp, hSet_knd h.knd, fun c => ?_, fun j hj hji => ?_⟩
  · rw [as_has_put, Bool.or_eq_true, h.has, decide_eq_true_iff, hSet_keys]
    have hm : y.key ∈ srt.map (·.key) := (h.perm.map (·.key)).mem_iff.1 (List.mem_map_of_mem hmem)
    constructor
    · rintro (hc | rfl)
      · by_cases hce : c = y.key
        · exact .inl hce
        · exact .inr ⟨hc, hce⟩
      · exact .inl rfl
    · rintro (rfl | ⟨hc, _⟩)
      · exact .inr rfl
      · exact .inl hc
  · rw [List.length_set] at hj
    rw [hG_set _ _ _ _ hi, if_neg (Ne.symm hji), as_get_put, if_neg (hap j hj hji), h.get j hj]
/-- A rank is set: of a key that wasn't there. -/
theorem HOk.setNew {es m srt came} {k : ByteArray} (one two : Int) (h : HOk es m srt came) (hk : k ∉ srt.map (·.key)) :
    HSt (es ++ [⟨k, one, two, came + 1⟩]) es.length ⟨k, one, two, came + 1⟩ (m.put k (.int .i64 (es.length : Nat))) (hSet srt came k one two) := by
  have e0 : (es ++ [(⟨k, one, two, came + 1⟩ : HE)]).set es.length ⟨k, one, two, came + 1⟩ = es ++ [⟨k, one, two, came + 1⟩] := set_idx (l2 := []) rfl
  have hke : k ∉ es.map (·.key) := fun hm => hk ((h.perm.map (·.key)).mem_iff.1 hm)
  refine ⟨⟨by simp, fun c h0 hc h1 h2 => ?_, fun c h0 hc hp hi0 => ?_⟩, ?_, hSet_knd h.knd, fun c => ?_, fun j hj hji => ?_⟩
  · have hcl : c < es.length := by rw [List.length_append, List.length_singleton] at hc; omega
    rw [hG_append hcl, hG_append (by omega)]
    exact h.ho c h0 hcl
  · rw [List.length_append, List.length_singleton] at hc
    omega
  · rw [e0]
    refine (List.perm_append_singleton _ _).trans ?_
    unfold hSet
    rw [hDel_none hk]
    exact (h.perm.cons _).trans (hIns_perm _ _).symm
  · rw [as_has_put, Bool.or_eq_true, h.has, decide_eq_true_iff, hSet_keys]
    constructor
    · rintro (hc | rfl)
      · exact .inr ⟨hc, fun e => hk (e ▸ hc)⟩
      · exact .inl rfl
    · rintro (rfl | ⟨hc, _⟩)
      · exact .inr rfl
      · exact .inl hc
  · have hjl : j < es.length := by rw [List.length_append, List.length_singleton] at hj; omega
    rw [hG_append hjl, as_get_put, if_neg, h.get j hjl]
    rintro rfl
    exact hke (List.mem_map_of_mem (hG_mem hjl))
/-- A key goes: the last one of the array. -/
theorem HOk.removeLast {es m srt came} {i : Nat} {k : ByteArray} (h : HOk es m srt came) (hi : i + 1 = es.length) (hk : (hG es i).key = k) : HOk (es.take i) (m.del k) (hDel srt k) came := by
  have hil : i < es.length := by omega
  have hnd := h.esnd
  obtain ⟨l1, l2, hes, hl⟩ := split_idx es i hil
  obtain ⟨y, hy⟩ : ∃ y, hG es i = y := ⟨_, rfl⟩
  rw [hy] at hk hes
  subst hk
  have hap : ∀ j, j < es.length → j ≠ i → y.key ≠ (hG es j).key := fun j hj hji => by rw [← hy]; exact keys_apart hnd hil hj (Ne.symm hji)
  have e2 : hDel es y.key = es.take i := by
    have hl2 : l2 = [] := by
      have := congrArg List.length hes
      rw [List.length_append, List.length_cons] at this
      exact List.length_eq_zero_iff.1 (by omega)
    subst hl2
    have e : es.take i = l1 := by
      conv => lhs; rw [hes]
      rw [← hl]; simp
    rw [e]
    rw [hes] at hnd
    have := hDel_mid hnd
    rw [← hes, List.append_nil] at this
    exact this
  refine ⟨fun c h0 hc => ?_, ?_, List.Pairwise.filter _ h.sorted, hDel_knd _ h.knd, fun x hx => h.cames x (List.mem_filter.1 hx).1, fun c => ?_, fun j hj => ?_⟩
  · rw [List.length_take] at hc
    rw [hG_take (by omega), hG_take (by omega)]
    exact h.ho c h0 (by omega)
  · rw [← e2]; exact hDel_perm _ h.perm
  · rw [as_has_del, Bool.and_eq_true, h.has, hDel_keys]
    simp only [Bool.not_eq_true', decide_eq_false_iff_not]
    exact ⟨fun ⟨a, b⟩ => ⟨a, fun e => b e.symm⟩, fun ⟨a, b⟩ => ⟨a, fun e => b e.symm⟩⟩
  · rw [List.length_take] at hj
    rw [hG_take (by omega), as_get_del, if_neg (hap j (by omega) (by omega)), h.get j (by omega)]
/-- A key goes: the last one of the array comes to its place. -/
theorem HOk.removeMid {es m srt came} {i n : Nat} {k : ByteArray} (h : HOk es m srt came) (hn : n + 1 = es.length) (hi : i < n) (hk : (hG es i).key = k) :
    HSt ((es.take n).set i (hG es n)) i (hG es n) ((m.del k).put (hG es n).key (.int .i64 (i : Nat))) (hDel srt k) := by
  have hil : i < es.length := by omega
  have hnl : n < es.length := by omega
  have hnd := h.esnd
  obtain ⟨y, hy⟩ : ∃ y, hG es i = y := ⟨_, rfl⟩
  obtain ⟨z, hz⟩ : ∃ z, hG es n = z := ⟨_, rfl⟩
  rw [hy] at hk
  subst hk
  have hap : ∀ j, j < es.length → j ≠ i → y.key ≠ (hG es j).key := fun j hj hji => by rw [← hy]; exact keys_apart hnd hil hj (Ne.symm hji)
  have haz : ∀ j, j < n → z.key ≠ (hG es j).key := fun j hj => by rw [← hz]; exact keys_apart hnd hnl (by omega) (by omega)
  rw [hz]
  have htl : (es.take n).length = n := by rw [List.length_take]; omega
  have hes : es = es.take n ++ [z] := by
    obtain ⟨l1, l2, he, hl⟩ := split_idx es n hnl
    have hl2 : l2 = [] := by
      have := congrArg List.length he
      rw [List.length_append, List.length_cons] at this
      exact List.length_eq_zero_iff.1 (by omega)
    subst hl2
    rw [hz] at he
    have e : es.take n = l1 := by
      conv => lhs; rw [he]
      rw [← hl]; simp
    rw [e]; exact he
  have hpm : List.Perm ((es.take n).set i z) (hDel srt y.key) := by
    obtain ⟨l1, l2, ht, hl⟩ := split_idx (es.take n) i (by rw [htl]; exact hi)
    rw [hG_take hi, hy] at ht
    have e1 : (es.take n).set i z = l1 ++ z :: l2 := by
      conv => lhs; rw [ht]
      exact set_idx hl
    have e2 : hDel es y.key = l1 ++ (l2 ++ [z]) := by
      have he : es = l1 ++ y :: (l2 ++ [z]) := by
        conv => lhs; rw [hes, ht]
        simp
      rw [he] at hnd
      have := hDel_mid hnd
      rwa [← he] at this
    rw [e1]
    refine List.Perm.trans ?_ (hDel_perm _ h.perm)
    rw [e2]
    exact List.Perm.append_left _ (List.perm_append_singleton _ _).symm
  have hole : Hole (es.take n) i := by
    refine ⟨by rw [htl]; exact hi, fun c h0 hc h1 h2 => ?_, fun c h0 hc hp hi0 => ?_⟩
    · rw [htl] at hc
      rw [hG_take hc, hG_take (by omega)]
      exact h.ho c h0 (by omega)
    · rw [htl] at hc
      rw [hG_take hc, hG_take (by omega)]
      exact (h.ho.hole hil).grand c h0 (by omega) hp hi0
  refine ⟨hole.set _, by rw [List.set_set]; exact hpm, hDel_knd _ h.knd, fun c => ?_, fun j hj hji => ?_⟩
  · rw [as_has_put, as_has_del, Bool.or_eq_true, Bool.and_eq_true, h.has, hDel_keys]
    simp only [Bool.not_eq_true', decide_eq_false_iff_not, decide_eq_true_iff]
    constructor
    · rintro (⟨a, b⟩ | rfl)
      · exact ⟨a, fun e => b e.symm⟩
      · exact ⟨(h.perm.map (·.key)).mem_iff.1 (List.mem_map_of_mem (by rw [← hz]; exact hG_mem hnl)), by rw [← hy]; exact haz i hi⟩
    · rintro ⟨a, b⟩
      exact .inl ⟨a, fun e => b e.symm⟩
  · rw [List.length_set, htl] at hj
    rw [hG_set _ _ _ _ (by rw [htl]; exact hi), if_neg (Ne.symm hji), hG_take hj, as_get_put, if_neg (haz j hj), as_get_del, if_neg (hap j (by omega) hji), h.get j (by omega)]
/-- The place of a key. -/
theorem HOk.find {es m srt came} {k : ByteArray} (h : HOk es m srt came) (hk : k ∈ srt.map (·.key)) : ∃ i, i < es.length ∧ (hG es i).key = k ∧ m.get k = some (.int .i64 (i : Nat)) ∧ hG es i ∈ srt := by
  have hm := (h.perm.map (·.key)).mem_iff.2 hk
  obtain ⟨x, hx, rfl⟩ := List.mem_map.1 hm
  obtain ⟨i, hi, he⟩ := List.mem_iff_getElem.1 hx
  have e : hG es i = x := by unfold hG; rw [List.getD, List.getElem?_eq_getElem hi]; exact he
  refine ⟨i, hi, by rw [e], ?_, by rw [e]; exact h.perm.mem_iff.1 hx⟩
  have := h.get i hi
  rwa [e] at this
end Go.Proofs.YtbbdimlpofjlfaaGreatDoor
/- A list of keys: New, Has, Len, the ends. -/
namespace Go.Proofs.YtbbdimlpofjlfaaGreatDoor
open Go Go.RowKit

theorem infoPlace : (Tryz.prog.info? 318).map (fun i => (i.zero, i.size, i.bytes)) = some (some (.agg #[.string ⟨#[]⟩, .int .i64 0, .int .i64 0]), 3, 32) := by kernel_rfl
theorem infoInt : (Tryz.prog.info? 3).map (fun i => (i.zero, i.size, i.bytes)) = some (some (.int .i64 0), 1, 8) := by kernel_rfl
theorem zeroInt (w : World) : (zeroValue 3).run Tryz.prog w = .ok (.int .i64 0) w := by kernel_rfl
set_option maxRecDepth 100000 in
theorem List_New {g w : World} {F : List SProp} (h : Holds g w F) :
    Calls Tryz.prog 67 #[] w fun r w' => ∃ b, r = .returned (.pointer (some ⟨b, 0, none⟩)) ∧ Holds g w' (IsList b [] :: F) := by
  obtain ⟨i, hi, hz0, hz1, hz2⟩ := info_parts infoPlace
  have hi := hide hi
  have hz0 := hide hz0
  have hz1 := hide hz1
  have hz2 := hide hz2
  have h := hide h
  have hmm := @run_makeMap Tryz.prog
  go_enter Tryz.func67, Tryz.ntmps67
  go_wp2_with (at_make; refine wpList_make_full _ rfl _ _ 237 rfl g.heap.size 318 i (.agg #[.string ⟨#[]⟩, .int .i64 0, .int .i64 0]) 3 Tryz.underlying237 hi.out hz0.out hz1.out .i64 .i64 _ _ 1 rfl rfl rfl rfl (by rw [hz2.out]; omega) (by simp only [maxLen]; omega) h.out.size ?_; intro w1 o1 g1)
  go_ret
  have H1 := (h.out.ownNil 318 3).grown o1 g1 (.inr ⟨_, rfl, Nat.le_refl _⟩)
  have H2 := (H1.newMap.alloc (o := .cells #[.slice (some ⟨w.heap.size, 0, none⟩) 1 1, .slice none 0 0, .map (some w1.heap.size)] 240)).ownNil 3 1
  simp only [World.size_alloc] at H2
  rw [show (madeCells (Value.agg #[.string ⟨#[]⟩, .int .i64 0, .int .i64 0]).cells (1 * 3)).toList = plCells [plc0] by kernel_rfl] at H2
  exact ⟨_, rfl, Holds.toList LOk.new (by decide) H2.p2.p1.p3.p3⟩
set_option maxRecDepth 100000 in
theorem List_Has {g w : World} {b : Nat} {ks : List ByteArray} {F : List SProp} (h : Holds g w (IsList b ks :: F)) (k : ByteArray) (d : Bool) (hd : decide (k ∈ ks) = d) :
    Calls Tryz.prog 160 #[.pointer (some ⟨b, 0, none⟩), .string k] w fun r w' => r = .returned (.bool d) ∧ w = w' := by
  obtain ⟨a, e, m, is, va, ve, mb, hok, _, h⟩ := h.isList
  have c2 : w.cell? ⟨b, 2, none⟩ = some (.map (some mb)) := h.cell rfl
  have lk := h.p3.lookupOk (t := 148) Tryz.underlying148 Tryz.underlying9 zeroInt k
  have hm : m.has k = d := by
    rw [← hd]
    by_cases hk : k ∈ ks
    · rw [decide_eq_true hk]; exact (hok.has k).2 hk
    · rw [decide_eq_false hk]; exact hok.hasF hk
  rw [hm] at lk
  clear h hm
  go_enter Tryz.func160, Tryz.ntmps160
  go_wp2
  go_ret
  exact ⟨rfl, rfl⟩
set_option maxRecDepth 100000 in
theorem List_Len {g w : World} {b : Nat} {ks : List ByteArray} {F : List SProp} (h : Holds g w (IsList b ks :: F)) (n : Nat) (hn : ks.length = n) :
    Calls Tryz.prog 161 #[.pointer (some ⟨b, 0, none⟩)] w fun r w' => r = .returned (.int .i64 n) ∧ w = w' := by
  obtain ⟨a, e, m, is, va, ve, mb, hok, _, h⟩ := h.isList
  have c2 : w.cell? ⟨b, 2, none⟩ = some (.map (some mb)) := h.cell rfl
  obtain ⟨es, clock, hb, hs⟩ := h.p3.mapLen
  have hs : es.size = n := by rw [hs, hok.mlen, hn]
  have hlen := fun ty => run_len_map (P := Tryz.prog) w 148 ty mb es clock (by kernel_rfl) hb
  rw [hs] at hlen
  clear h hb hs
  go_enter Tryz.func161, Tryz.ntmps161
  go_wp2
  go_ret
  exact ⟨rfl, rfl⟩
end Go.Proofs.YtbbdimlpofjlfaaGreatDoor
