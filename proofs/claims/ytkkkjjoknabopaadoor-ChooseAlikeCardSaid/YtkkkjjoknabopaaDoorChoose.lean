/- Package choose: what its functions answer. -/
import Derived.Test.YtkkkjjoknabopaaDoorWraps
import Derived.BigQuiet
import Derived.Deep.QuietTactic
import Derived.Deep.RegionHeld3
import Derived.Defers
namespace Go.Proofs.YtkkkjjoknabopaaDoor
open Go Go.RowKit

/-- A row's number at a place. -/
def gi (xs : List Int) (k : Nat) : Int := xs.getD k 0
/-- The best of the first k + 1. -/
def bestFrom (xs : List Int) : Nat → Nat
  | 0 => 0
  | k + 1 => if gi xs k < gi xs (bestFrom xs k) then k else bestFrom xs k
def best (xs : List Int) : Nat := bestFrom xs 7
theorem bestFrom_lt (xs : List Int) : ∀ k, bestFrom xs k ≤ k - 1
  | 0 => Nat.le_refl _
  | k + 1 => by
    have := bestFrom_lt xs k
    unfold bestFrom
    split <;> omega
theorem best_lt (xs : List Int) : best xs < 7 := by have := bestFrom_lt xs 7; unfold best; omega
theorem bestFrom_le (xs : List Int) : ∀ k i, i < k → gi xs (bestFrom xs k) ≤ gi xs i
  | 0, i, h => by omega
  | k + 1, i, h => by
    have ih := bestFrom_le xs k
    unfold bestFrom
    split
    · by_cases e : i = k
      · subst e; exact Int.le_refl _
      · have := ih i (by omega); omega
    · by_cases e : i = k
      · subst e; omega
      · exact ih i (by omega)
theorem bestFrom_first (xs : List Int) : ∀ k i, i < bestFrom xs k → gi xs (bestFrom xs k) < gi xs i
  | 0, i, h => by simp [bestFrom] at h
  | k + 1, i, h => by
    have ih := bestFrom_first xs k
    have il := bestFrom_le xs k
    unfold bestFrom at h ⊢
    split at h
    · rename_i hc
      rw [if_pos hc]
      have := il i (by omega)
      omega
    · rename_i hc
      rw [if_neg hc]
      exact ih i h
theorem best_le (xs : List Int) (i : Nat) (h : i < 7) : gi xs (best xs) ≤ gi xs i := bestFrom_le xs 7 i h
theorem best_first (xs : List Int) (i : Nat) (h : i < best xs) : gi xs (best xs) < gi xs i := bestFrom_first xs 7 i h

/-- A row of seven whole numbers. -/
abbrev row7 (x0 x1 x2 x3 x4 x5 x6 : Int) : Array Value := #[.int .i64 x0, .int .i64 x1, .int .i64 x2, .int .i64 x3, .int .i64 x4, .int .i64 x5, .int .i64 x6]
theorem row7_get (x0 x1 x2 x3 x4 x5 x6 : Int) (k : Nat) (h : k < 7) : (row7 x0 x1 x2 x3 x4 x5 x6)[k]? = some (.int .i64 (gi [x0, x1, x2, x3, x4, x5, x6] k)) := by
  match k, h with
  | 0, _ => rfl
  | 1, _ => rfl
  | 2, _ => rfl
  | 3, _ => rfl
  | 4, _ => rfl
  | 5, _ => rfl
  | 6, _ => rfl
theorem index7 (x0 x1 x2 x3 x4 x5 x6 : Int) (k : Nat) (h : k < 7) (w : World) : (Instr.index 31 (.agg (row7 x0 x1 x2 x3 x4 x5 x6)) (.int .i64 k)).run Tryd.prog w = .ok (.int .i64 (gi [x0, x1, x2, x3, x4, x5, x6] k)) w := by
  have h' : k = 0 ∨ k = 1 ∨ k = 2 ∨ k = 3 ∨ k = 4 ∨ k = 5 ∨ k = 6 := by omega
  rcases h' with rfl | rfl | rfl | rfl | rfl | rfl | rfl <;> rfl

set_option maxHeartbeats 1000000 in
theorem Best_any (x0 x1 x2 x3 x4 x5 x6 : Int) (w : World) :
    Calls Tryd.prog 16 #[.agg (row7 x0 x1 x2 x3 x4 x5 x6)] w fun r w' => r = .returned (.int .i64 (best [x0, x1, x2, x3, x4, x5, x6])) ∧ Keep w w' := by
  go_enter Tryd.func16, Tryd.ntmps16
  have hK := hide ((Keep.refl w).alloc (o := .cells (row7 x0 x1 x2 x3 x4 x5 x6) 31))
  go_wp2
  go_loop [3, 7] (fun m t => ∃ k : Nat, k ≤ 7 ∧ t = .int .i64 k ∧ m = .int .i64 (bestFrom [x0, x1, x2, x3, x4, x5, x6] k)) (fun _ t => (7 - intOf t).toNat)
  case atStart => exact ⟨0, by omega, rfl, rfl⟩
  case round =>
    obtain ⟨k, hk, rfl, rfl⟩ := hrel
    by_cases hlt : k < 7
    · have hi := index7 x0 x1 x2 x3 x4 x5 x6 k hlt
      have hb := bestFrom_lt [x0, x1, x2, x3, x4, x5, x6] k
      have hc : (w.alloc (.cells (row7 x0 x1 x2 x3 x4 x5 x6) 31)).cell? ⟨w.heap.size, bestFrom [x0, x1, x2, x3, x4, x5, x6] k, none⟩ = some (.int .i64 (gi [x0, x1, x2, x3, x4, x5, x6] (bestFrom [x0, x1, x2, x3, x4, x5, x6] k))) := by
        rw [World.cell?_alloc_at _ _ _ _ rfl]
        exact row7_get x0 x1 x2 x3 x4 x5 x6 _ (by omega)
      by_cases hd : gi [x0, x1, x2, x3, x4, x5, x6] k < gi [x0, x1, x2, x3, x4, x5, x6] (bestFrom [x0, x1, x2, x3, x4, x5, x6] k)
      · have hs : Hide (bestFrom [x0, x1, x2, x3, x4, x5, x6] (k + 1) = k) := ⟨if_pos hd⟩
        go_wp2
        go_round
        case rel => exact ⟨k + 1, by omega, by go_num, by rw [hs.out]⟩
        case measure => simp [intOf]; omega
      · have hs : Hide (bestFrom [x0, x1, x2, x3, x4, x5, x6] (k + 1) = bestFrom [x0, x1, x2, x3, x4, x5, x6] k) := ⟨if_neg hd⟩
        go_wp2
        go_round
        case rel => exact ⟨k + 1, by omega, by go_num, by rw [hs.out]⟩
        case measure => simp [intOf]; omega
    · obtain rfl : k = 7 := by omega
      go_wp2
      go_ret
      exact ⟨rfl, hK.out⟩
/-- Is a kind beaten? -/
def beatenB (xs : List Int) (now margin : Int) : Bool := decide (0 ≤ now ∧ now < 7 ∧ margin < gi xs now.toNat - gi xs (best xs))
/-- Scores that may be. -/
def fair (xs : List Int) : Prop := ∀ i, 0 ≤ gi xs i ∧ gi xs i ≤ 9223372036854775807
set_option maxHeartbeats 1000000 in
theorem Beaten_any (x0 x1 x2 x3 x4 x5 x6 now margin : Int) (w : World) (hf : fair [x0, x1, x2, x3, x4, x5, x6]) :
    Calls Tryd.prog 18 #[.agg (row7 x0 x1 x2 x3 x4 x5 x6), .int .i64 now, .int .i64 margin] w fun r w' => r = .returned (.bool (beatenB [x0, x1, x2, x3, x4, x5, x6] now margin)) ∧ Keep w w' := by
  have hK := hide ((Keep.refl w).alloc (o := .cells (row7 x0 x1 x2 x3 x4 x5 x6) 31))
  by_cases h1 : 0 ≤ now
  · by_cases h2 : now < 7
    · obtain ⟨n, rfl⟩ : ∃ n : Nat, now = n := ⟨now.toNat, by omega⟩
      have hn : n < 7 := by omega
      have hB := best_lt [x0, x1, x2, x3, x4, x5, x6]
      have hB' : (best [x0, x1, x2, x3, x4, x5, x6] : Int) < 7 := by omega
      have hB0 : (0 : Int) ≤ (best [x0, x1, x2, x3, x4, x5, x6] : Int) := by omega
      have f1 := hf n
      have f2 := hf (best [x0, x1, x2, x3, x4, x5, x6])
      have d1 : decide (0 ≤ (n : Int)) = true := decide_eq_true h1
      have d2 : decide ((n : Int) < 7) = true := decide_eq_true h2
      have hc : (w.alloc (.cells (row7 x0 x1 x2 x3 x4 x5 x6) 31)).drew.cell? ⟨w.heap.size, n, none⟩ = some (.int .i64 (gi [x0, x1, x2, x3, x4, x5, x6] n)) := by
        rw [World.cell?_drew, World.cell?_alloc_at _ _ _ _ rfl]
        exact row7_get x0 x1 x2 x3 x4 x5 x6 _ hn
      go_enter Tryd.func18, Tryd.ntmps18
      go_wp2
      have hBc : (w.alloc (.cells (row7 x0 x1 x2 x3 x4 x5 x6) 31)).drew.cell? ⟨w.heap.size, best [x0, x1, x2, x3, x4, x5, x6], none⟩ = some (.int .i64 (gi [x0, x1, x2, x3, x4, x5, x6] (best [x0, x1, x2, x3, x4, x5, x6]))) := by
        rw [World.cell?_drew, World.cell?_alloc_at _ _ _ _ rfl]
        exact row7_get x0 x1 x2 x3 x4 x5 x6 _ hB
      go_region_held3 (fun w' => w'.cell? ⟨w.heap.size, n, none⟩ = some (.int .i64 (gi [x0, x1, x2, x3, x4, x5, x6] n)) ∧ w'.cell? ⟨w.heap.size, best [x0, x1, x2, x3, x4, x5, x6], none⟩ = some (.int .i64 (gi [x0, x1, x2, x3, x4, x5, x6] (best [x0, x1, x2, x3, x4, x5, x6])))
          ∧ w'.cell? ⟨w.heap.size, 0, none⟩ = some (.int .i64 x0) ∧ w'.cell? ⟨w.heap.size, 1, none⟩ = some (.int .i64 x1) ∧ w'.cell? ⟨w.heap.size, 2, none⟩ = some (.int .i64 x2) ∧ w'.cell? ⟨w.heap.size, 3, none⟩ = some (.int .i64 x3)
          ∧ w'.cell? ⟨w.heap.size, 4, none⟩ = some (.int .i64 x4) ∧ w'.cell? ⟨w.heap.size, 5, none⟩ = some (.int .i64 x5) ∧ w'.cell? ⟨w.heap.size, 6, none⟩ = some (.int .i64 x6) ∧ Keep (w.alloc (.cells (row7 x0 x1 x2 x3 x4 x5 x6) 31)).drew w')
        (first | exact ⟨hc, hBc, by simp, by simp, by simp, by simp, by simp, by simp, by simp, Keep.refl _⟩ | exact ⟨hk1.out.cell hc, hk1.out.cell hBc, hk1.out.cell (by simp), hk1.out.cell (by simp), hk1.out.cell (by simp), hk1.out.cell (by simp), hk1.out.cell (by simp), hk1.out.cell (by simp), hk1.out.cell (by simp), hk1.out⟩)
        ((go_at_call 16; refine (Best_any x0 x1 x2 x3 x4 x5 x6 _).mono ?_; rintro r w1 ⟨rfl, hk1⟩; have hk1 := hide hk1))
      have hw : IntKind.i64.wrap (gi [x0, x1, x2, x3, x4, x5, x6] n - gi [x0, x1, x2, x3, x4, x5, x6] (best [x0, x1, x2, x3, x4, x5, x6])) = gi [x0, x1, x2, x3, x4, x5, x6] n - gi [x0, x1, x2, x3, x4, x5, x6] (best [x0, x1, x2, x3, x4, x5, x6]) := IntWalk.i64_in _ (by omega)
      go_wp2
      go_ret
      refine ⟨?_, hK.out.drew.trans hk1.out⟩
      show Ending.returned (.bool (decide (margin < IntKind.i64.wrap _))) = _
      rw [hw]
      simp [beatenB]
      try omega
    · have d1 : decide (0 ≤ now) = true := decide_eq_true h1
      have d2 : decide (now < 7) = false := decide_eq_false h2
      go_enter Tryd.func18, Tryd.ntmps18
      go_wp2
      go_quiet (fail)
      go_wp2
      go_ret
      exact ⟨by simp [beatenB]; omega, hK.out.drewN⟩
  · have d1 : decide (0 ≤ now) = false := decide_eq_false h1
    go_enter Tryd.func18, Tryd.ntmps18
    go_wp2
    go_quiet (fail)
    go_wp2
    go_ret
    exact ⟨by simp [beatenB]; omega, hK.out.drewN⟩

/-! ### The selector -/
def IsSel (b : Nat) (margin hold counted : Int) : SProp := pts b (.cells #[.int .i64 margin, .int .i64 hold, .int .i64 counted] 50)
theorem Sel_New (margin hold : Int) (w g : World) (L : List SProp) (h : Holds g w L) (hr : 0 ≤ margin ∧ margin ≤ 1073741824 ∧ 1 ≤ hold ∧ hold ≤ 64) :
    Calls Tryd.prog 9 #[.int .i64 margin, .int .i64 hold] w fun r w' => ∃ b, r = .returned (.tuple #[.pointer (some ⟨b, 0, none⟩), .nilIface]) ∧ Holds g w' (IsSel b margin hold 0 :: L) := by
  obtain ⟨h1, h2, h3, h4⟩ := hr
  have hH := hide h
  clear h
  go_enter Tryd.func9, Tryd.ntmps9
  go_wp2
  go_ret2
  exact ⟨_, rfl, hH.out.alloc⟩
theorem Sel_New_bad (margin hold : Int) (w g : World) (L : List SProp) (h : Holds g w L) (hr : ¬ (0 ≤ margin ∧ margin ≤ 1073741824 ∧ 1 ≤ hold ∧ hold ≤ 64)) :
    Calls Tryd.prog 9 #[.int .i64 margin, .int .i64 hold] w fun r w' => ∃ v, r = .returned (.tuple #[.pointer none, v]) ∧ Holds g w' (IsErr (.fault ⟨#[99, 104, 111, 111, 115, 101]⟩ ⟨#[]⟩ (.no 1)) v :: L) := by
  have hH := hide h
  clear h
  have key : ∀ w', Holds g w' (pts w.heap.size (.cells #[.string ⟨#[99, 104, 111, 111, 115, 101]⟩, .string ⟨#[]⟩, .iface 46 (.int .i64 1)] 48) :: L) →
      Holds g w' (IsErr (.fault ⟨#[99, 104, 111, 111, 115, 101]⟩ ⟨#[]⟩ (.no 1)) (.iface 45 (.pointer (some ⟨w.heap.size, 0, none⟩))) :: L) := by
    intro w' h
    exact Holds.mkErr rfl h
  go_enter Tryd.func9, Tryd.ntmps9
  go_wp2
  all_goals first
    | (exfalso; exact hr ⟨by omega, by omega, by omega, by omega⟩)
    | (go_ret2; exact ⟨_, rfl, key _ hH.out.alloc⟩)
theorem Counted_any (b : Nat) (m h c : Int) (g w : World) (L : List SProp) (hh : Holds g w (IsSel b m h c :: L)) :
    Calls Tryd.prog 15 #[.pointer (some ⟨b, 0, none⟩)] w fun r w' => r = .returned (.int .i64 c) ∧ Holds g w' (IsSel b m h c :: L) := by
  have c2 := hh.cell (off := 2) rfl
  have hH := hide hh
  clear hh
  go_enter Tryd.func15, Tryd.ntmps15
  go_wp2
  go_ret
  exact ⟨rfl, hH.out⟩

set_option maxHeartbeats 1000000 in
theorem Ask_deferred (b n0 n2 : Nat) (m h c v : Int) (g w : World) (L : List SProp) (u : FrameMode)
    (hh : Holds g w (pts n2 (.cells #[.int .i64 v] 3) :: pts n0 (.cells #[.pointer (some ⟨b, 0, none⟩)] 24) :: IsSel b m h c :: L)) :
    CallsD Tryd.prog 22 #[.pointer (some ⟨n2, 0, none⟩), .pointer (some ⟨n0, 0, none⟩)] u w fun e u' w' => u' = u ∧ (e = .returned (.tuple #[]) ∧ Holds g w' (IsSel b m h v :: L)) := by
  have c0 := hh.cell (off := 0) rfl
  have c1 := hh.p1.cell (off := 0) rfl
  have c2 := hh.p2.cell (off := 2) rfl
  have f2 := hh.p2.free (off := 2)
  have hH := hide hh
  clear hh
  go_enter_d Tryd.func22, Tryd.ntmps22
  go_wp2
  go_end0
  exact ⟨rfl, hH.out.p2.setCell.tail fun _ h => h.tl.tl⟩
def askB (m h c : Int) (xs : List Int) (now : Int) (pinned moving : Bool) : Int × Int × Bool :=
  if pinned || (moving || !beatenB xs now m) then (0, 0, false) else if c + 1 < h then (c + 1, 0, false) else (0, best xs, true)
set_option maxHeartbeats 2000000 in
theorem Ask_any (b : Nat) (m h c : Int) (x0 x1 x2 x3 x4 x5 x6 now : Int) (pinned moving : Bool) (g w : World) (L : List SProp) (hf : fair [x0, x1, x2, x3, x4, x5, x6]) (hc : 0 ≤ c ∧ c ≤ 64)
    (hh : Holds g w (IsSel b m h c :: L)) :
    Calls Tryd.prog 13 #[.pointer (some ⟨b, 0, none⟩), .agg (row7 x0 x1 x2 x3 x4 x5 x6), .int .i64 now, .bool pinned, .bool moving] w
      fun r w' => r = .returned (.tuple #[.int .i64 (askB m h c [x0, x1, x2, x3, x4, x5, x6] now pinned moving).2.1, .bool (askB m h c [x0, x1, x2, x3, x4, x5, x6] now pinned moving).2.2]) ∧
        Holds g w' (IsSel b m h (askB m h c [x0, x1, x2, x3, x4, x5, x6] now pinned moving).1 :: L) := by
  obtain ⟨hc0, hc1⟩ := hc
  have h3 := ((hh.alloc (o := .cells #[.pointer (some ⟨b, 0, none⟩)] 24)).alloc (o := .cells (row7 x0 x1 x2 x3 x4 x5 x6) 31)).alloc (o := .cells #[.int .i64 0] 3)
  simp only [World.size_alloc] at h3
  have c0 := hh.cell (off := 0) rfl
  have c1 := hh.cell (off := 1) rfl
  have c2 := hh.cell (off := 2) rfl
  have hH := hide h3
  clear h3 hh
  have stable : ∀ {w' : World}, Holds g w' (pts (w.heap.size + 1 + 1) (.cells #[.int .i64 0] 3) :: pts (w.heap.size + 1) (.cells (row7 x0 x1 x2 x3 x4 x5 x6) 31) :: pts w.heap.size (.cells #[.pointer (some ⟨b, 0, none⟩)] 24) :: IsSel b m h c :: L) →
      w'.cell? ⟨w.heap.size, 0, none⟩ = some (.pointer (some ⟨b, 0, none⟩)) ∧ w'.cell? ⟨b, 0, none⟩ = some (.int .i64 m)
          ∧ w'.cell? ⟨w.heap.size + 1, 0, none⟩ = some (.int .i64 x0) ∧ w'.cell? ⟨w.heap.size + 1, 1, none⟩ = some (.int .i64 x1) ∧ w'.cell? ⟨w.heap.size + 1, 2, none⟩ = some (.int .i64 x2) ∧ w'.cell? ⟨w.heap.size + 1, 3, none⟩ = some (.int .i64 x3)
          ∧ w'.cell? ⟨w.heap.size + 1, 4, none⟩ = some (.int .i64 x4) ∧ w'.cell? ⟨w.heap.size + 1, 5, none⟩ = some (.int .i64 x5) ∧ w'.cell? ⟨w.heap.size + 1, 6, none⟩ = some (.int .i64 x6)
          ∧ Holds g w' (pts (w.heap.size + 1 + 1) (.cells #[.int .i64 0] 3) :: pts (w.heap.size + 1) (.cells (row7 x0 x1 x2 x3 x4 x5 x6) 31) :: pts w.heap.size (.cells #[.pointer (some ⟨b, 0, none⟩)] 24) :: IsSel b m h c :: L) :=
    fun k => ⟨k.p2.cell rfl, k.p3.cell rfl, k.p1.cell rfl, k.p1.cell rfl, k.p1.cell rfl, k.p1.cell rfl, k.p1.cell rfl, k.p1.cell rfl, k.p1.cell rfl, k⟩
  have stableH := hide @stable
  clear stable
  have hmf : ∀ (fn : Fn) (first cap : Array Value) (w : World), (Instr.makeFunc fn first cap).run Tryd.prog w = .ok (.func fn first cap) w := fun _ _ _ _ => rfl
  go_enter_defers Tryd.func13, Tryd.ntmps13
  go_wp2
  cases pinned
  · cases moving
    · go_region_held3 (fun w' => w'.cell? ⟨w.heap.size, 0, none⟩ = some (.pointer (some ⟨b, 0, none⟩)) ∧ w'.cell? ⟨b, 0, none⟩ = some (.int .i64 m)
          ∧ w'.cell? ⟨w.heap.size + 1, 0, none⟩ = some (.int .i64 x0) ∧ w'.cell? ⟨w.heap.size + 1, 1, none⟩ = some (.int .i64 x1) ∧ w'.cell? ⟨w.heap.size + 1, 2, none⟩ = some (.int .i64 x2) ∧ w'.cell? ⟨w.heap.size + 1, 3, none⟩ = some (.int .i64 x3)
          ∧ w'.cell? ⟨w.heap.size + 1, 4, none⟩ = some (.int .i64 x4) ∧ w'.cell? ⟨w.heap.size + 1, 5, none⟩ = some (.int .i64 x5) ∧ w'.cell? ⟨w.heap.size + 1, 6, none⟩ = some (.int .i64 x6)
          ∧ Holds g w' (pts (w.heap.size + 1 + 1) (.cells #[.int .i64 0] 3) :: pts (w.heap.size + 1) (.cells (row7 x0 x1 x2 x3 x4 x5 x6) 31) :: pts w.heap.size (.cells #[.pointer (some ⟨b, 0, none⟩)] 24) :: IsSel b m h c :: L))
        (first | exact stableH.out hH.out.drew | exact stableH.out hk1.out)
        ((go_at_call 18; refine (Beaten_any x0 x1 x2 x3 x4 x5 x6 now m _ hf).mono ?_; rintro r w1 ⟨rfl, hk0⟩; have hk1 := hide (hH.out.drew.keep hk0); clear hk0))
      have s0 : w1.cell? ⟨w.heap.size, 0, none⟩ = some (.pointer (some ⟨b, 0, none⟩)) := hk1.out.p2.cell rfl
      have s1 : w1.cell? ⟨b, 1, none⟩ = some (.int .i64 h) := hk1.out.p3.cell rfl
      have s2 : w1.cell? ⟨b, 2, none⟩ = some (.int .i64 c) := hk1.out.p3.cell rfl
      have s3 : w1.cell? ⟨w.heap.size + 1 + 1, 0, none⟩ = some (.int .i64 0) := hk1.out.cell rfl
      have f3 : w1.frozen? ⟨w.heap.size + 1 + 1, 0, none⟩ = false := hk1.out.free
      have r0 : w1.cell? ⟨w.heap.size + 1, 0, none⟩ = some (.int .i64 x0) := hk1.out.p1.cell rfl
      have r1 : w1.cell? ⟨w.heap.size + 1, 1, none⟩ = some (.int .i64 x1) := hk1.out.p1.cell rfl
      have r2 : w1.cell? ⟨w.heap.size + 1, 2, none⟩ = some (.int .i64 x2) := hk1.out.p1.cell rfl
      have r3 : w1.cell? ⟨w.heap.size + 1, 3, none⟩ = some (.int .i64 x3) := hk1.out.p1.cell rfl
      have r4 : w1.cell? ⟨w.heap.size + 1, 4, none⟩ = some (.int .i64 x4) := hk1.out.p1.cell rfl
      have r5 : w1.cell? ⟨w.heap.size + 1, 5, none⟩ = some (.int .i64 x5) := hk1.out.p1.cell rfl
      have r6 : w1.cell? ⟨w.heap.size + 1, 6, none⟩ = some (.int .i64 x6) := hk1.out.p1.cell rfl
      cases hb : beatenB [x0, x1, x2, x3, x4, x5, x6] now m
      · have hB := hide hb
        clear hb
        go_wp2
        refine leaves_cons (f := 22) (args := #[.pointer (some ⟨w.heap.size + 1 + 1, 0, none⟩), .pointer (some ⟨w.heap.size, 0, none⟩)]) (by simp) (by simp [go_sem]) ?_
        refine (Ask_deferred b w.heap.size (w.heap.size + 1 + 1) m h c 0 g _ L .returning (hk1.out.p1.drop)).mono ?_
        rintro e u' w'' ⟨rfl, rfl, h2⟩
        exact ⟨_, results_tmp2 rfl _ _ _, by simp [askB, hB.out], by simpa [askB, hB.out] using h2⟩
      · have hB := hide hb
        clear hb
        have hw : IntKind.i64.wrap (c + 1) = c + 1 := IntWalk.i64_in _ (by omega)
        by_cases hlt : c + 1 < h
        · have hlt' : decide (c + 1 < h) = true := decide_eq_true hlt
          go_wp2
          go_quiet (fail)
          go_wp2
          refine leaves_cons (f := 22) (args := #[.pointer (some ⟨w.heap.size + 1 + 1, 0, none⟩), .pointer (some ⟨w.heap.size, 0, none⟩)]) (by simp) (by simp [go_sem]) ?_
          refine (Ask_deferred b w.heap.size (w.heap.size + 1 + 1) m h c (c + 1) g _ L .returning (by first | exact hk1.out.drewN.setCell.p1.drop | exact hk1.out.setCell.drewN.p1.drop)).mono ?_
          rintro e u' w'' ⟨rfl, rfl, h2⟩
          have hE : askB m h c [x0, x1, x2, x3, x4, x5, x6] now false false = (c + 1, 0, false) := by simp [askB, hB.out, hlt]
          exact ⟨_, results_tmp2 rfl _ _ _, by rw [hE]; rfl, by rw [hE]; exact h2⟩
        · have hlt' : decide (c + 1 < h) = false := decide_eq_false hlt
          go_wp2
          go_quiet (fail)
          go_wp2_with (go_at_call 16; refine (Best_any x0 x1 x2 x3 x4 x5 x6 _).mono ?_; rintro r w2 ⟨rfl, hk2⟩; have hk3 := hide (hk1.out.drewN.keep hk2); clear hk2)
          refine leaves_cons (f := 22) (args := #[.pointer (some ⟨w.heap.size + 1 + 1, 0, none⟩), .pointer (some ⟨w.heap.size, 0, none⟩)]) (by simp) (by simp [go_sem]) ?_
          refine (Ask_deferred b w.heap.size (w.heap.size + 1 + 1) m h c 0 g _ L .returning hk3.out.p1.drop).mono ?_
          rintro e u' w'' ⟨rfl, rfl, h2⟩
          have hE : askB m h c [x0, x1, x2, x3, x4, x5, x6] now false false = (0, ((best [x0, x1, x2, x3, x4, x5, x6] : Nat) : Int), true) := by simp [askB, hB.out, hlt]
          exact ⟨_, results_tmp2 rfl _ _ _, by rw [hE]; rfl, by rw [hE]; exact h2⟩
    · go_quiet (fail)
      have hH2 := hide (hH.out.drewN (n := nq))
      go_wp2
      refine leaves_cons (f := 22) (args := #[.pointer (some ⟨w.heap.size + 1 + 1, 0, none⟩), .pointer (some ⟨w.heap.size, 0, none⟩)]) (by simp) (by simp [go_sem]) ?_
      refine (Ask_deferred b w.heap.size (w.heap.size + 1 + 1) m h c 0 g _ L .returning (hH2.out.p1.drop)).mono ?_
      rintro e u' w'' ⟨rfl, rfl, h2⟩
      exact ⟨_, results_tmp2 rfl _ _ _, rfl, h2⟩
  · go_quiet (fail)
    have hH2 := hide (hH.out.drewN (n := nq))
    go_wp2
    refine leaves_cons (f := 22) (args := #[.pointer (some ⟨w.heap.size + 1 + 1, 0, none⟩), .pointer (some ⟨w.heap.size, 0, none⟩)]) (by simp) (by simp [go_sem]) ?_
    refine (Ask_deferred b w.heap.size (w.heap.size + 1 + 1) m h c 0 g _ L .returning (hH2.out.p1.drop)).mono ?_
    rintro e u' w'' ⟨rfl, rfl, h2⟩
    exact ⟨_, results_tmp2 rfl _ _ _, rfl, h2⟩
end Go.Proofs.YtkkkjjoknabopaaDoor
