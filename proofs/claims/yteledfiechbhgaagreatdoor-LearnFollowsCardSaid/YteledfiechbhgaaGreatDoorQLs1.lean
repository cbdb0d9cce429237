/- A list of keys: New, Has, Len, the ends. -/
import Derived.Test.YteledfiechbhgaaGreatDoorQLsRow
import Derived.Test.YteledfiechbhgaaGreatDoorQMap2
import Derived.Test.YteledfiechbhgaaGreatDoorQQuiet
import Derived.Test.YteledfiechbhgaaGreatDoorProg
import Derived.Outline
import Derived.WideLaws
namespace Go.Proofs.YteledfiechbhgaaGreatDoor
open Go Go.RowKit

theorem infoPlace : (Tryz.prog.info? 141).map (fun i => (i.zero, i.size, i.bytes)) = some (some (.agg #[.string ⟨#[]⟩, .int .i64 0, .int .i64 0]), 3, 32) := by kernel_rfl
theorem infoInt : (Tryz.prog.info? 3).map (fun i => (i.zero, i.size, i.bytes)) = some (some (.int .i64 0), 1, 8) := by kernel_rfl
theorem zeroInt (w : World) : (zeroValue 3).run Tryz.prog w = .ok (.int .i64 0) w := by kernel_rfl
set_option maxRecDepth 100000 in
theorem List_New {g w : World} {F : List SProp} (h : Holds g w F) :
    Calls Tryz.prog 66 #[] w fun r w' => ∃ b, r = .returned (.pointer (some ⟨b, 0, none⟩)) ∧ Holds g w' (IsList b [] :: F) := by
  obtain ⟨i, hi, hz0, hz1, hz2⟩ := info_parts infoPlace
  have hi := hide hi
  have hz0 := hide hz0
  have hz1 := hide hz1
  have hz2 := hide hz2
  have h := hide h
  have hmm := @run_makeMap Tryz.prog
  go_enter Tryz.func66, Tryz.ntmps66
  go_wp2_with (at_make; refine wpList_make_full _ rfl _ _ 142 rfl g.heap.size 141 i (.agg #[.string ⟨#[]⟩, .int .i64 0, .int .i64 0]) 3 Tryz.underlying142 hi.out hz0.out hz1.out .i64 .i64 _ _ 1 rfl rfl rfl rfl (by rw [hz2.out]; omega) (by simp only [maxLen]; omega) h.out.size ?_; intro w1 o1 g1)
  go_ret
  have H1 := (h.out.ownNil 141 3).grown o1 g1 (.inr ⟨_, rfl, Nat.le_refl _⟩)
  have H2 := (H1.newMap.alloc (o := .cells #[.slice (some ⟨w.heap.size, 0, none⟩) 1 1, .slice none 0 0, .map (some w1.heap.size)] 144)).ownNil 3 1
  simp only [World.size_alloc] at H2
  rw [show (madeCells (Value.agg #[.string ⟨#[]⟩, .int .i64 0, .int .i64 0]).cells (1 * 3)).toList = plCells [plc0] by kernel_rfl] at H2
  exact ⟨_, rfl, Holds.toList LOk.new (by decide) H2.p2.p1.p3.p3⟩
set_option maxRecDepth 100000 in
theorem List_Has {g w : World} {b : Nat} {ks : List ByteArray} {F : List SProp} (h : Holds g w (IsList b ks :: F)) (k : ByteArray) (d : Bool) (hd : decide (k ∈ ks) = d) :
    Calls Tryz.prog 91 #[.pointer (some ⟨b, 0, none⟩), .string k] w fun r w' => r = .returned (.bool d) ∧ w = w' := by
  obtain ⟨a, e, m, is, va, ve, mb, hok, _, h⟩ := h.isList
  have c2 : w.cell? ⟨b, 2, none⟩ = some (.map (some mb)) := h.cell rfl
  have lk := h.p3.lookupOk (t := 42) Tryz.underlying42 Tryz.underlying9 zeroInt k
  have hm : m.has k = d := by
    rw [← hd]
    by_cases hk : k ∈ ks
    · rw [decide_eq_true hk]; exact (hok.has k).2 hk
    · rw [decide_eq_false hk]; exact hok.hasF hk
  rw [hm] at lk
  clear h hm
  go_enter Tryz.func91, Tryz.ntmps91
  go_wp2
  go_ret
  exact ⟨rfl, rfl⟩
set_option maxRecDepth 100000 in
theorem List_Len {g w : World} {b : Nat} {ks : List ByteArray} {F : List SProp} (h : Holds g w (IsList b ks :: F)) (n : Nat) (hn : ks.length = n) :
    Calls Tryz.prog 102 #[.pointer (some ⟨b, 0, none⟩)] w fun r w' => r = .returned (.int .i64 n) ∧ w = w' := by
  obtain ⟨a, e, m, is, va, ve, mb, hok, _, h⟩ := h.isList
  have c2 : w.cell? ⟨b, 2, none⟩ = some (.map (some mb)) := h.cell rfl
  obtain ⟨es, clock, hb, hs⟩ := h.p3.mapLen
  have hs : es.size = n := by rw [hs, hok.mlen, hn]
  have hlen := fun ty => run_len_map (P := Tryz.prog) w 42 ty mb es clock (by kernel_rfl) hb
  rw [hs] at hlen
  clear h hb hs
  go_enter Tryz.func102, Tryz.ntmps102
  go_wp2
  go_ret
  exact ⟨rfl, rfl⟩
end Go.Proofs.YteledfiechbhgaaGreatDoor
