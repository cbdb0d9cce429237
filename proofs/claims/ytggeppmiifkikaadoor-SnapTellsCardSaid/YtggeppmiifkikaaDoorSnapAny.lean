/- snap.Print, snap.Parse: at every picture, at every text. -/
import Derived.Test.YtggeppmiifkikaaDoorSnapPlain
namespace Go.Proofs.YtggeppmiifkikaaDoor
open Go Go.RowKit Go.Shelf

theorem ext_list (s : ByteArray) (i j : Nat) : (s.extract i j).data.toList = (s.data.toList.take j).drop i := by
  rw [ByteArray.data_extract, Array.toList_extract, List.extract_eq_take_drop, List.drop_take]
theorem ext_ba (s : ByteArray) (i j : Nat) : s.extract i j = ⟨((s.data.toList.take j).drop i).toArray⟩ := by
  apply ByteArray.ext
  rw [← ext_list]
/-- What Parse answers. -/
def ParseQ (m : PR) (w : World) (r : Ending) (w' : World) : Prop := Keep w w' ∧
  ((∃ e u, m = .err e ∧ r = .returned (.tuple #[.agg (picCells noPic (.slice none 0 0)), u]) ∧ ErrAt w' e u) ∨
   (∃ p v, m = .ok p ∧ r = .returned (.tuple #[.agg (picCells p v), .nilIface]) ∧ Holds w w' [OwnItems v p.items]))
theorem Snap_Parse (s : ByteArray) (hs : s.size ≤ 90000) (w : World) :
    Calls Tryd.prog 14 #[.string s] w fun r w' => ParseQ (parseM s.data.toList) w r w' := by
  by_cases h11 : s.size < 11
  · have hm : parseM s.data.toList = .err (.fault tParse ⟨#[]⟩ (.no 8)) := by
      unfold parseM
      rw [if_pos (fun h => by have := h.1; rw [ba_len] at this; omega)]
    refine (Parse_short s h11 w).mono ?_
    rintro r w' ⟨u, rfl, hk, he⟩
    exact ⟨hk, .inl ⟨_, u, hm, rfl, he⟩⟩
  obtain ⟨m, hm⟩ : ∃ m, s.size = m + 8 := ⟨s.size - 8, by omega⟩
  have hl8 : s.data.toList.length - 8 = m := by rw [ba_len]; omega
  have e1 : (s.extract 0 m).data.toList = s.data.toList.take m := by rw [ext_list, List.drop_zero]
  have e2 : (s.extract m (m + 8)).data.toList = s.data.toList.drop m := by rw [ext_list, ← hm, ← ba_len, List.take_length]
  have e3 : (s.extract 0 3).data.toList = s.data.toList.take 3 := by rw [ext_list, List.drop_zero]
  by_cases hse : sealed s.data.toList
  · have hse' := hse.2
    rw [hl8, ← e1, ← e2] at hse'
    by_cases h3 : s.data.toList.take 3 = hd0
    · have hr0 : s.extract 3 m = ⟨(bodyOf s.data.toList).toArray⟩ := by rw [ext_ba]; unfold bodyOf; rw [hl8]
      have hrl : (bodyOf s.data.toList).length ≤ 10000000 := by unfold bodyOf; rw [List.length_drop, List.length_take, ba_len]; omega
      refine (Parse_main s m hm (by omega) (by omega) hse' (by rw [e3]; exact h3) _ hr0 hrl w).mono ?_
      rintro r w' ⟨hk, h⟩
      refine ⟨hk, ?_⟩
      unfold parseM
      rw [if_neg (fun h => h hse), if_neg (fun h => h h3)]
      rcases h with ⟨hd, u, rfl, he⟩ | ⟨p, hd, ⟨hn, u, rfl, he⟩ | ⟨hn, v, rfl, hi⟩⟩
      · rw [hd]
        exact .inl ⟨_, u, rfl, rfl, he⟩
      · rw [hd]
        exact .inl ⟨_, u, if_neg (by rw [hn]; exact Bool.false_ne_true), rfl, he⟩
      · rw [hd]
        exact .inr ⟨p, v, if_pos hn, rfl, hi⟩
    · refine (Parse_version s m hm (by omega) (by omega) hse' (by rw [e3]; exact h3) w).mono ?_
      rintro r w' ⟨u, rfl, hk, he⟩
      refine ⟨hk, .inl ⟨_, u, ?_, rfl, he⟩⟩
      unfold parseM
      rw [if_neg (fun h => h hse), if_pos h3]
  · have hse' : beB (hashN (s.extract 0 m).data.toList) 8 ≠ (s.extract m (m + 8)).data.toList := fun h => hse ⟨by rw [ba_len]; omega, by rw [hl8, ← e1, ← e2]; exact h⟩
    refine (Parse_seal s m hm (by omega) (by omega) hse' w).mono ?_
    rintro r w' ⟨u, rfl, hk, he⟩
    refine ⟨hk, .inl ⟨_, u, ?_, rfl, he⟩⟩
    unfold parseM
    rw [if_pos hse]
/-- The bytes of a picture; none, where it may not be. -/
def prS (p : Pic) : ByteArray := if (picE p).isNil = true then ⟨(printB p).toArray⟩ else ⟨#[]⟩
structure FewP (p : Pic) : Prop where
  len : p.items.length ≤ 40
  item : ∀ x ∈ p.items, x.key.size ≤ 300 ∧ x.val.size ≤ 600
  dl : ∀ x ∈ p.items, x.dl ≤ 9223372036854775807
theorem itB_length (x : It) : (itB x).length = 11 + x.key.size + x.val.size := by
  unfold itB
  simp only [List.length_append, beB_length, ba_len]
  omega
theorem flat_length : ∀ (l : List It), (∀ x ∈ l, x.key.size ≤ 300 ∧ x.val.size ≤ 600) → (l.flatMap itB).length ≤ 911 * l.length
  | [], _ => Nat.le_refl _
  | x :: l, h => by
    rw [List.flatMap_cons, List.length_append, itB_length, List.length_cons]
    have := flat_length l fun y hy => h y (by simp [hy])
    have := h x (by simp)
    omega
theorem head_length (p : Pic) : (headB p).length = 83 := head_len p 10 (by omega)
theorem FewP.fine {p : Pic} (h : FewP p) (he : picE p = .nil) : Fine p := by
  have hc : cfgC p.c = 0 := by
    by_cases hc : cfgC p.c = 0
    · exact hc
    · rw [picE_cfg hc] at he; cases he
  refine ⟨he, fun x hx => ⟨?_, h.dl x hx⟩, ?_⟩
  · by_cases h1 : 0 ≤ p.kind ∧ p.kind ≤ 6
    · by_cases h2 : (0 ≤ p.now ∧ p.now ≤ 1099511627776) ∧ (p.items.length : Int) ≤ p.c.size
      · rw [picE_rest hc h1 h2] at he
        have hf : (firstE p.items).isNil = true := by
          cases hf : (firstE p.items).isNil
          · unfold restE at he
            rw [if_pos hf] at he
            cases hg : firstE p.items with
            | nil => rw [hg] at hf; cases hf
            | no n => rw [hg] at he; cases he
            | fault o k e => rw [hg] at he; cases he
          · rfl
        have := firstE_nil hf x hx
        unfold itC at this
        split at this
        · omega
        · split at this
          · omega
          · split at this <;> omega
      · rw [picE_now hc h1 h2] at he; cases he
    · rw [picE_kind hc h1] at he; cases he
  · unfold bodyB
    rw [List.length_append, head_length]
    have := flat_length p.items h.item
    have := h.len
    omega
theorem wrapE_shape (e : EV) : wrapE e = .nil ∨ ∃ e', wrapE e = .fault tSnap ⟨#[]⟩ e' := by
  cases e with
  | nil => exact .inl rfl
  | no n => exact .inr ⟨_, rfl⟩
  | fault o k e => exact .inr ⟨_, rfl⟩
theorem Snap_Print (p : Pic) (v : Value) (w : World) (hv : ItemsAt w v p.items) (hp : FewP p) :
    Calls Tryd.prog 11 #[.agg (picCells p v)] w fun r w' => ∃ u, r = .returned (.tuple #[.string (prS p), u]) ∧ Keep w w' ∧ ErrAt w' (picE p) u := by
  rcases wrapE_shape (picE0 p) with h | ⟨e, h⟩
  · have h : picE p = .nil := h
    refine (Print_ok p v w hv (hp.fine h)).mono ?_
    rintro r w' ⟨rfl, hk⟩
    unfold prS
    rw [h]
    exact ⟨_, rfl, hk, rfl⟩
  · have h : picE p = .fault tSnap ⟨#[]⟩ e := h
    refine (Print_err p v w hv e h).mono ?_
    rintro r w' ⟨u, rfl, hk, he⟩
    have hs : prS p = ⟨#[]⟩ := by unfold prS; rw [h]; rfl
    rw [hs]
    exact ⟨_, rfl, hk, he⟩
end Go.Proofs.YtggeppmiifkikaaDoor
