/- What the laws of the learner have in common. -/
import Derived.Test.YteledfiechbhgaaGreatDoorQAwake10
import Derived.Test.YteledfiechbhgaaGreatDoorQRefs10
import Derived.Test.YteledfiechbhgaaGreatDoorQFixRefOps
namespace Go.Proofs.YteledfiechbhgaaGreatDoor
open Go Go.RowKit

theorem RefWhole_100 (w : World) : Calls Tryz.prog 13 #[.int .i64 1, .int .i64 100] w fun r w' => r = .returned (.tuple #[.int .u64 46116860184273879, .int .i64 0]) ∧ Keep w w' := RefWhole_val 1 100 46116860184273879 (by decide +kernel) (by omega) (by omega) (by omega) w
theorem RefWhole_1000 (w : World) : Calls Tryz.prog 13 #[.int .i64 1, .int .i64 1000] w fun r w' => r = .returned (.tuple #[.int .u64 4611686018427387, .int .i64 0]) ∧ Keep w w' := RefWhole_val 1 1000 4611686018427387 (by decide +kernel) (by omega) (by omega) (by omega) w
theorem RefWhole_45 (w : World) : Calls Tryz.prog 13 #[.int .i64 45, .int .i64 100] w fun r w' => r = .returned (.tuple #[.int .u64 2075258708292324556, .int .i64 0]) ∧ Keep w w' := RefWhole_val 45 100 2075258708292324556 (by decide +kernel) (by omega) (by omega) (by omega) w
theorem RefWhole_var (a b : Int) (v : Int) (x : Nat) (hx : (x : Int) = v) {w : World} (h : Calls Tryz.prog 13 #[.int .i64 a, .int .i64 b] w fun r w' => r = .returned (.tuple #[.int .u64 v, .int .i64 0]) ∧ Keep w w') :
    Calls Tryz.prog 13 #[.int .i64 a, .int .i64 b] w fun r w' => r = .returned (.tuple #[.int .u64 (x : Nat), .int .i64 0]) ∧ Keep w w' := by
  rw [hx]
  exact h
theorem Holds.oneStr {g w : World} {F : List SProp} {q : Nat} {k : ByteArray} (h : Holds g w (pts q (.cells #[.string k] 9) :: F)) : Holds g w (OwnStrs (.slice (some ⟨q, 0, none⟩) 1 1) [k] :: F) := Holds.one h
theorem zeroBool (w : World) : (zeroValue 4).run Tryz.prog w = .ok (.bool false) w := by kernel_rfl
theorem Holds.strsAt {g w : World} {v : Value} {l : List ByteArray} {F : List SProp} (h : Holds g w (OwnStrs v l :: F)) : RowAt w v (strs l) := by
  unfold OwnStrs at h
  exact h.rowAt
theorem RowAt.strCell {w : World} {ao : Option Addr} {n cap : Nat} {l : List ByteArray} (h : RowAt w (.slice ao n cap) (strs l)) {i : Nat} {x : ByteArray} (hx : l[i]? = some x) : ∃ b off, ao = some ⟨b, off, none⟩ ∧ w.cell? ⟨b, off + i, none⟩ = some (.string x) := by
  rcases h with ⟨_, hnil⟩ | ⟨b, off, cap2, hv, _, _, hcell⟩
  · have : l = [] := List.length_eq_zero_iff.1 (by have := congrArg List.length hnil; rwa [strs_length] at this)
    rw [this] at hx
    simp at hx
  · cases hv
    exact ⟨b, off, rfl, hcell i _ (strs_get? hx)⟩
theorem RowR.strCell {w : World} {ao : Option Addr} {n cap : Nat} {l : List ByteArray} (h : RowR w (.slice ao n cap) (strs l)) {i : Nat} {x : ByteArray} (hx : l[i]? = some x) : ∃ b off, ao = some ⟨b, off, none⟩ ∧ w.cell? ⟨b, off + i, none⟩ = some (.string x) := by
  rcases h with h | ⟨hnil, _⟩
  · exact h.strCell hx
  · have : l = [] := List.length_eq_zero_iff.1 (by have := congrArg List.length hnil; rwa [strs_length] at this)
    rw [this] at hx
    simp at hx
theorem RowR.numCell {w : World} {ao : Option Addr} {n cap : Nat} {l : List Nat} (h : RowR w (.slice ao n cap) (nums64 l)) {i x : Nat} (hx : l[i]? = some x) : ∃ b off, ao = some ⟨b, off, none⟩ ∧ w.cell? ⟨b, off + i, none⟩ = some (.int .u64 (x : Nat)) := by
  have hu : (nums64 l)[i]? = some (.int .u64 (x : Nat)) := by unfold nums64; rw [List.getElem?_map, hx]; rfl
  rcases h with (⟨_, hnil⟩ | ⟨b, off, cap2, hv, _, _, hcell⟩) | ⟨hnil, _⟩
  · rw [hnil] at hu
    simp at hu
  · cases hv
    exact ⟨b, off, rfl, hcell i _ hu⟩
  · have : l = [] := List.length_eq_zero_iff.1 (by have := congrArg List.length hnil; rwa [nums64_length] at this)
    rw [this] at hx
    simp at hx
theorem Pol.keys_fit {i m : Nat} {p : Pol} (h : p.Fit i m) : p.keys.length ≤ i := by
  have h2 := Pol.len_fit h
  cases p with
  | lru s => show s.ks.reverse.length ≤ i; rw [List.length_reverse]; exact h2
  | lfu s => show (hKeys s.srt).length ≤ i; unfold hKeys; rw [List.length_map]; exact h2
  | sr s => show (s.n.reverse ++ s.a.reverse).length ≤ i; rw [List.length_append, List.length_reverse, List.length_reverse]; exact h2
end Go.Proofs.YteledfiechbhgaaGreatDoor
