/- What the laws of choose share. -/
import Derived.Test.YtkkkjjoknabopaaDoorChooseAwake
import Derived.Test.YtkkkjjoknabopaaDoorQuiet
import Derived.Test.YtkkkjjoknabopaaDoorLift
namespace Go.Proofs.YtkkkjjoknabopaaDoor
open Go Go.RowKit

def rightB (xs : List Int) : Bool := (List.range 7).all fun i => decide (0 ≤ gi xs i)
theorem rightB_iff (xs : List Int) : rightB xs = true ↔ ∀ i, i < 7 → 0 ≤ gi xs i := by simp [rightB]
theorem rightB_false {xs : List Int} {k : Nat} (h : k < 7) (hk : gi xs k < 0) : rightB xs = false := by
  cases hb : rightB xs
  · rfl
  · have := (rightB_iff xs).1 hb k h; omega
set_option maxHeartbeats 1000000 in
theorem right_any (x0 x1 x2 x3 x4 x5 x6 : Int) (w : World) :
    Calls Tryd.prog 12 #[.agg (row7 x0 x1 x2 x3 x4 x5 x6)] w fun r w' => r = .returned (.bool (rightB [x0, x1, x2, x3, x4, x5, x6])) ∧ Keep w w' := by
  have hK := hide ((Keep.refl w).alloc (o := .cells (row7 x0 x1 x2 x3 x4 x5 x6) 31))
  go_enter Tryd.func12, Tryd.ntmps12
  go_wp2
  go_loop [3] (fun t => ∃ k : Nat, k ≤ 7 ∧ t = .int .i64 k ∧ ∀ i, i < k → 0 ≤ gi [x0, x1, x2, x3, x4, x5, x6] i) (fun t => (7 - intOf t).toNat)
  case atStart => exact ⟨0, by omega, rfl, fun i hi => absurd hi (Nat.not_lt_zero i)⟩
  case round =>
    obtain ⟨k, hk, rfl, hall⟩ := hrel
    have hA := hide hall
    clear hall
    by_cases hlt : k < 7
    · have hlt' : (k : Int) < 7 := by omega
      have hc : (w.alloc (.cells (row7 x0 x1 x2 x3 x4 x5 x6) 31)).cell? ⟨w.heap.size, k, none⟩ = some (.int .i64 (gi [x0, x1, x2, x3, x4, x5, x6] k)) := by
        rw [World.cell?_alloc_at _ _ _ _ rfl]
        exact row7_get x0 x1 x2 x3 x4 x5 x6 _ hlt
      by_cases hd : gi [x0, x1, x2, x3, x4, x5, x6] k < 0
      · go_wp2
        go_ret
        exact ⟨by rw [show rightB [x0, x1, x2, x3, x4, x5, x6] = false from rightB_false hlt hd]; rfl, hK.out⟩
      · go_wp2
        go_round
        case rel => exact ⟨k + 1, by omega, by go_num, fun i hi => by
          by_cases e : i = k
          · subst e; omega
          · exact hA.out i (by omega)⟩
        case measure => simp [intOf]; omega
    · obtain rfl : k = 7 := by omega
      go_wp2
      go_ret
      exact ⟨by rw [show rightB [x0, x1, x2, x3, x4, x5, x6] = true from (rightB_iff _).2 hA.out]; rfl, hK.out⟩
theorem rightB_fair {xs : List Int} (h : rightB xs = true) (hx : ∀ i, gi xs i ≤ 9223372036854775807) (h7 : ∀ i, 7 ≤ i → gi xs i = 0) : fair xs := fun i => by
  have h := (rightB_iff xs).1 h
  by_cases hi : i < 7
  · exact ⟨h i hi, hx i⟩
  · exact ⟨by rw [h7 i (by omega)]; decide, hx i⟩

theorem Beaten_val (x0 x1 x2 x3 x4 x5 x6 now margin : Int) (w : World) (v : Bool) (hf : fair [x0, x1, x2, x3, x4, x5, x6]) (hv : beatenB [x0, x1, x2, x3, x4, x5, x6] now margin = v) :
    Calls Tryd.prog 18 #[.agg (row7 x0 x1 x2 x3 x4 x5 x6), .int .i64 now, .int .i64 margin] w fun r w' => r = .returned (.bool v) ∧ Keep w w' := by
  have h := Beaten_any x0 x1 x2 x3 x4 x5 x6 now margin w hf
  rw [hv] at h
  exact h
theorem beatenB_best {xs : List Int} {m : Int} (h : 0 ≤ m) : beatenB xs (best xs) m = false := by
  unfold beatenB
  apply decide_eq_false
  simp
  omega
theorem beatenB_mono {xs : List Int} {now m n : Int} (h : m ≤ n) (hb : beatenB xs now n = true) : beatenB xs now m = true := by
  unfold beatenB at *
  have := of_decide_eq_true hb
  exact decide_eq_true ⟨this.1, this.2.1, by omega⟩
theorem beatenB_zero {xs : List Int} {k : Nat} (h : k < 7) : beatenB xs k 0 = decide (gi xs (best xs) < gi xs k) := by
  unfold beatenB
  rw [decide_eq_decide]
  simp
  omega
/-- An argument of the type [7]int. -/
theorem ints7_of_shp {W : World} {n : Nat} {cs : List Value} (h : Shp Tryd.prog W n 31 cs) : ∃ x0 x1 x2 x3 x4 x5 x6 : Int, cs = (row7 x0 x1 x2 x3 x4 x5 x6).toList ∧ (∀ i, gi [x0, x1, x2, x3, x4, x5, x6] i ≤ 9223372036854775807) ∧ (∀ i, 7 ≤ i → gi [x0, x1, x2, x3, x4, x5, x6] i = 0) := by
  obtain ⟨hl, n', hi⟩ := shp_array Tryd.underlying31 h
  have e7 : Tryd.prog.cellsOf 31 = 7 := by kernel_rfl
  have e1 : Tryd.prog.cellsOf 3 = 1 := by kernel_rfl
  rw [e7] at hl
  rw [e1] at hi
  match cs, hl with
  | [c0, c1, c2, c3, c4, c5, c6], _ =>
    obtain ⟨x0, e0, w0⟩ := shp_int Tryd.underlying3 (hi 0 (by decide))
    obtain ⟨x1, e1, w1⟩ := shp_int Tryd.underlying3 (hi 1 (by decide))
    obtain ⟨x2, e2, w2⟩ := shp_int Tryd.underlying3 (hi 2 (by decide))
    obtain ⟨x3, e3, w3⟩ := shp_int Tryd.underlying3 (hi 3 (by decide))
    obtain ⟨x4, e4, w4⟩ := shp_int Tryd.underlying3 (hi 4 (by decide))
    obtain ⟨x5, e5, w5⟩ := shp_int Tryd.underlying3 (hi 5 (by decide))
    obtain ⟨x6, e6, w6⟩ := shp_int Tryd.underlying3 (hi 6 (by decide))
    refine ⟨x0, x1, x2, x3, x4, x5, x6, ?_, ?_, ?_⟩
    · simp_all
    · intro i
      match i with
      | 0 => exact (i64_bounds w0).2
      | 1 => exact (i64_bounds w1).2
      | 2 => exact (i64_bounds w2).2
      | 3 => exact (i64_bounds w3).2
      | 4 => exact (i64_bounds w4).2
      | 5 => exact (i64_bounds w5).2
      | 6 => exact (i64_bounds w6).2
      | _ + 7 => exact (by decide : (0 : Int) ≤ 9223372036854775807)
    · intro i hi
      obtain ⟨j, rfl⟩ : ∃ j, i = j + 7 := ⟨i - 7, by omega⟩
      rfl
end Go.Proofs.YtkkkjjoknabopaaDoor
