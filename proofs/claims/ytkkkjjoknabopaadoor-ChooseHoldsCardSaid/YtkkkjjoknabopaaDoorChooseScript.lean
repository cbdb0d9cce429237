/- A script of windows, as an argument. -/
import Derived.Test.YtkkkjjoknabopaaDoorChooseAwake
import Derived.Test.YtkkkjjoknabopaaDoorQuiet
import Derived.Test.YtkkkjjoknabopaaDoorChooseRight
import Derived.Test.YtkkkjjoknabopaaDoorLift
namespace Go.Proofs.YtkkkjjoknabopaaDoor
open Go Go.RowKit

/-- A window. -/
structure Win where
  x0 : Int
  x1 : Int
  x2 : Int
  x3 : Int
  x4 : Int
  x5 : Int
  x6 : Int
  now : Int
  pinned : Bool
  moving : Bool
def Win.xs (w : Win) : List Int := [w.x0, w.x1, w.x2, w.x3, w.x4, w.x5, w.x6]
/-- A window's cells, at a place. -/
structure WinAt (W : World) (b o : Nat) (n : Win) : Prop where
  c0 : W.cell? ⟨b, o, none⟩ = some (.int .i64 n.x0)
  c1 : W.cell? ⟨b, o + 1, none⟩ = some (.int .i64 n.x1)
  c2 : W.cell? ⟨b, o + 2, none⟩ = some (.int .i64 n.x2)
  c3 : W.cell? ⟨b, o + 3, none⟩ = some (.int .i64 n.x3)
  c4 : W.cell? ⟨b, o + 4, none⟩ = some (.int .i64 n.x4)
  c5 : W.cell? ⟨b, o + 5, none⟩ = some (.int .i64 n.x5)
  c6 : W.cell? ⟨b, o + 6, none⟩ = some (.int .i64 n.x6)
  c7 : W.cell? ⟨b, o + 7, none⟩ = some (.int .i64 n.now)
  c8 : W.cell? ⟨b, o + 8, none⟩ = some (.bool n.pinned)
  c9 : W.cell? ⟨b, o + 9, none⟩ = some (.bool n.moving)
/-- A window's numbers are whole numbers of 64 bits. -/
structure WinFits (n : Win) : Prop where
  most : ∀ i, gi n.xs i ≤ 9223372036854775807
  past : ∀ i, 7 ≤ i → gi n.xs i = 0
  now0 : -9223372036854775808 ≤ n.now
  now1 : n.now ≤ 9223372036854775807
theorem WinAt.keep {W W' : World} {b o : Nat} {n : Win} (h : WinAt W b o n) (k : ∀ a v, W.cell? a = some v → W'.cell? a = some v) : WinAt W' b o n :=
  ⟨k _ _ h.c0, k _ _ h.c1, k _ _ h.c2, k _ _ h.c3, k _ _ h.c4, k _ _ h.c5, k _ _ h.c6, k _ _ h.c7, k _ _ h.c8, k _ _ h.c9⟩
/-- A slice of windows: as a value. -/
def Wins (W : World) (v : Value) (len : Nat) (ws : Nat → Win) : Prop :=
  (v = .slice none 0 0 ∧ len = 0) ∨ ∃ b o cap sp, v = .slice (some ⟨b, o, sp⟩) len cap ∧ (0 < len → sp = none) ∧ len ≤ cap ∧ cap ≤ maxLen ∧ ∀ i, i < len → WinAt W b (o + i * 10) (ws i) ∧ WinFits (ws i)
theorem win_of_shp {W : World} {n : Nat} {a : Addr} {cs : List Value} (hc : W.cells? 0 a 10 = some cs) (h : Shp Tryd.prog W n 33 cs) : a.spot = none ∧ ∃ m : Win, WinAt W a.block a.off m ∧ WinFits m := by
  obtain ⟨_, hl, hat⟩ := World.cells?_some hc
  obtain ⟨hl2, n', hf⟩ := shp_struct Tryd.underlying33 h
  have e7 : Tryd.prog.cellsOf 31 = 7 := by kernel_rfl
  have e1 : Tryd.prog.cellsOf 3 = 1 := by kernel_rfl
  have eb : Tryd.prog.cellsOf 4 = 1 := by kernel_rfl
  match cs, hl with
  | [d0, d1, d2, d3, d4, d5, d6, d7, d8, d9], _ =>
    have f0 := hf _ (List.mem_cons_self)
    have f1 := hf _ (List.mem_cons_of_mem _ List.mem_cons_self)
    have f2 := hf _ (List.mem_cons_of_mem _ (List.mem_cons_of_mem _ List.mem_cons_self))
    have f3 := hf _ (List.mem_cons_of_mem _ (List.mem_cons_of_mem _ (List.mem_cons_of_mem _ List.mem_cons_self)))
    simp only [e7, e1, eb, List.drop_zero, List.drop_succ_cons, List.take_succ_cons, List.take_zero, List.take_nil] at f0 f1 f2 f3
    obtain ⟨x0, x1, x2, x3, x4, x5, x6, hx, hm, hp⟩ := ints7_of_shp f0
    obtain ⟨now, hn, wn⟩ := shp_int Tryd.underlying3 f1
    obtain ⟨p, hpi⟩ := shp_bool Tryd.underlying4 f2
    obtain ⟨m, hmo⟩ := shp_bool Tryd.underlying4 f3
    simp only [List.cons.injEq, and_true] at hx hn hpi hmo
    obtain ⟨rfl, rfl, rfl, rfl, rfl, rfl, rfl⟩ := hx
    subst hn hpi hmo
    have hsp : a.spot = none := by
      have h0 := hat 0 (by decide)
      simp only [Addr.add, if_true, List.getElem?_cons_zero] at h0
      unfold World.cell? at h0
      split at h0
      · split at h0
        · cases h0
        · rename_i hs; simpa using hs
      · cases h0
    obtain ⟨ab, ao, asp⟩ := a
    simp only at hsp
    subst hsp
    refine ⟨rfl, ⟨x0, x1, x2, x3, x4, x5, x6, now, p, m⟩, ⟨?_, ?_, ?_, ?_, ?_, ?_, ?_, ?_, ?_, ?_⟩, ⟨hm, hp, (i64_bounds wn).1, (i64_bounds wn).2⟩⟩
    · exact hat 0 (by decide)
    · exact hat 1 (by decide)
    · exact hat 2 (by decide)
    · exact hat 3 (by decide)
    · exact hat 4 (by decide)
    · exact hat 5 (by decide)
    · exact hat 6 (by decide)
    · exact hat 7 (by decide)
    · exact hat 8 (by decide)
    · exact hat 9 (by decide)
theorem wins_of_arg {W : World} {v : Value} (h : Arg Tryd.prog W 22 v) : ∃ len ws, Wins W v len ws := by
  have e10 : Tryd.prog.cellsOf 33 = 10 := by kernel_rfl
  rcases arg_slice Tryd.underlying22 h with rfl | ⟨a, len, cap, n', rfl, h1, h2, h3⟩
  · exact ⟨0, fun _ => ⟨0, 0, 0, 0, 0, 0, 0, 0, false, false⟩, .inl ⟨rfl, rfl⟩⟩
  · rw [e10] at h3
    have h4 : ∀ i, i < len → ∃ m : Win, (a.add (i * 10)).spot = none ∧ WinAt W (a.add (i * 10)).block (a.add (i * 10)).off m ∧ WinFits m := fun i hi => by
      obtain ⟨cs, hc, hs⟩ := h3 i hi
      obtain ⟨g1, m, g2, g3⟩ := win_of_shp hc hs
      exact ⟨m, g1, g2, g3⟩
    have h5 : ∀ i, ∃ m : Win, i < len → (a.add (i * 10)).spot = none ∧ WinAt W (a.add (i * 10)).block (a.add (i * 10)).off m ∧ WinFits m := fun i => by
      by_cases hi : i < len
      · obtain ⟨m, hm⟩ := h4 i hi; exact ⟨m, fun _ => hm⟩
      · exact ⟨⟨0, 0, 0, 0, 0, 0, 0, 0, false, false⟩, fun h => absurd h hi⟩
    obtain ⟨ws, hws⟩ : ∃ ws : Nat → Win, ∀ i, i < len → (a.add (i * 10)).spot = none ∧ WinAt W (a.add (i * 10)).block (a.add (i * 10)).off (ws i) ∧ WinFits (ws i) := ⟨fun i => Classical.choose (h5 i), fun i => Classical.choose_spec (h5 i)⟩
    refine ⟨len, ws, .inr ⟨a.block, a.off, cap, a.spot, rfl, fun hl => ?_, h1, h2, fun i hi => ?_⟩⟩
    · have := (hws 0 hl).1
      simpa [Addr.add] using this
    · have := hws i hi
      have eb : (a.add (i * 10)).block = a.block := by unfold Addr.add; split <;> rfl
      have eo : (a.add (i * 10)).off = a.off + i * 10 := by unfold Addr.add; split <;> simp_all
      rw [eb, eo] at this
      exact this.2
theorem Ask_val {b : Nat} {m h c : Int} {x0 x1 x2 x3 x4 x5 x6 now : Int} {pinned moving : Bool} {g w : World} {L : List SProp} {c' k : Int} {ok : Bool} (hf : fair [x0, x1, x2, x3, x4, x5, x6]) (hc : 0 ≤ c ∧ c ≤ 64)
    (hh : Holds g w (IsSel b m h c :: L)) (hv : askB m h c [x0, x1, x2, x3, x4, x5, x6] now pinned moving = (c', k, ok)) :
    Calls Tryd.prog 13 #[.pointer (some ⟨b, 0, none⟩), .agg (row7 x0 x1 x2 x3 x4 x5 x6), .int .i64 now, .bool pinned, .bool moving] w
      fun r w' => r = .returned (.tuple #[.int .i64 k, .bool ok]) ∧ Holds g w' (IsSel b m h c' :: L) := by
  have h := Ask_any b m h c x0 x1 x2 x3 x4 x5 x6 now pinned moving g w L hf hc hh
  rw [hv] at h
  exact h
/-- The cells of a window that was laid anew. -/
abbrev win10 (x0 x1 x2 x3 x4 x5 x6 now : Int) (pinned moving : Bool) : Array Value := #[.int .i64 x0, .int .i64 x1, .int .i64 x2, .int .i64 x3, .int .i64 x4, .int .i64 x5, .int .i64 x6, .int .i64 now, .bool pinned, .bool moving]
theorem win_cells {g w : World} {b : Nat} {t : TypeId} {fz : Nat × Nat} {F : List SProp} {x0 x1 x2 x3 x4 x5 x6 now : Int} {pinned moving : Bool} (h : Holds g w (pts b (.cells (win10 x0 x1 x2 x3 x4 x5 x6 now pinned moving) t fz) :: F)) :
    w.cell? ⟨b, 0, none⟩ = some (.int .i64 x0) ∧ w.cell? ⟨b, 1, none⟩ = some (.int .i64 x1) ∧ w.cell? ⟨b, 2, none⟩ = some (.int .i64 x2) ∧ w.cell? ⟨b, 3, none⟩ = some (.int .i64 x3) ∧
      w.cell? ⟨b, 4, none⟩ = some (.int .i64 x4) ∧ w.cell? ⟨b, 5, none⟩ = some (.int .i64 x5) ∧ w.cell? ⟨b, 6, none⟩ = some (.int .i64 x6) ∧ w.cell? ⟨b, 7, none⟩ = some (.int .i64 now) ∧
      w.cell? ⟨b, 8, none⟩ = some (.bool pinned) ∧ w.cell? ⟨b, 9, none⟩ = some (.bool moving) :=
  ⟨h.cell rfl, h.cell rfl, h.cell rfl, h.cell rfl, h.cell rfl, h.cell rfl, h.cell rfl, h.cell rfl, h.cell rfl, h.cell rfl⟩
end Go.Proofs.YtkkkjjoknabopaaDoor
