/- The text of a fault without a key, over the number 1: strconv.Quote of the empty string, strconv.Itoa of 1. -/
import Derived.Test.YtfdeafiidaepgaaDoorWraps
import Derived.Test.YtfdeafiidaepgaaDoorConv
import Derived.Test.YtfdeafiidaepgaaDoorQuiet
import Derived.Outline
namespace Go.Proofs.YtfdeafiidaepgaaDoor
open Go Go.RowKit

theorem small_1 (w : World) : Calls Tryd.prog 78 #[.int .i64 1] w fun r w' => r = .returned (.string ⟨#[49]⟩) ∧ w' = w := by
  go_enter Tryd.func78, Tryd.ntmps78
  go_wp2
  go_ret
  exact ⟨rfl, rfl⟩
theorem FormatInt_1 (w : World) : Calls Tryd.prog 77 #[.int .i64 1, .int .i64 10] w fun r w' => r = .returned (.string ⟨#[49]⟩) ∧ w' = w := by
  go_enter Tryd.func77, Tryd.ntmps77
  go_wp2_with (go_at_call 78; refine (small_1 _).mono ?_; rintro r w' ⟨rfl, rfl⟩)
  go_ret
  exact ⟨rfl, rfl⟩
theorem iItoa_1 (w : World) : Calls Tryd.prog 76 #[.int .i64 1] w fun r w' => r = .returned (.string ⟨#[49]⟩) ∧ w' = w := by
  go_enter Tryd.func76, Tryd.ntmps76
  go_wp2_with (go_at_call 77; refine (FormatInt_1 _).mono ?_; rintro r w' ⟨rfl, rfl⟩)
  go_ret
  exact ⟨rfl, rfl⟩
theorem Itoa_1 (w : World) : Calls Tryd.prog 75 #[.int .i64 1] w fun r w' => r = .returned (.string ⟨#[49]⟩) ∧ w' = w := by
  go_enter Tryd.func75, Tryd.ntmps75
  go_wp2_with (go_at_call 76; refine (iItoa_1 _).mono ?_; rintro r w' ⟨rfl, rfl⟩)
  go_ret
  exact ⟨rfl, rfl⟩
theorem Errno_Error_1 (w : World) : Calls Tryd.prog 74 #[.int .i64 1] w fun r w' => r = .returned (.string ⟨#[99, 97, 99, 104, 101, 119, 105, 115, 101, 58, 32, 49]⟩) ∧ w' = w := by
  go_enter Tryd.func74, Tryd.ntmps74
  go_wp2_with (go_at_call 75; refine (Itoa_1 _).mono ?_; rintro r w' ⟨rfl, rfl⟩)
  go_ret
  exact ⟨rfl, rfl⟩
theorem infoByte : (Tryd.prog.info? 5).map (fun i => (i.zero, i.size, i.bytes)) = some (some (.int .u8 0), 1, 1) := by kernel_rfl
theorem appendQuoted_0 (g w : World) (b : Nat) (h : Holds g w [OwnRow 5 1 (.slice (some ⟨b, 0, none⟩) 0 0) 0 []]) :
    Calls Tryd.prog 92 #[.slice (some ⟨b, 0, none⟩) 0 0, .string ⟨#[]⟩, .int .u8 34, .bool false, .bool false] w
      fun r w' => ∃ v, r = .returned v ∧ Holds g w' [OwnRow 5 1 v 2 [.int .u8 34, .int .u8 34]] := by
  have hH := hide h
  obtain ⟨i, hi, hz0, hz1, hz2⟩ := info_parts infoByte
  have hi := hide hi
  have hz0 := hide hz0
  have hz1 := hide hz1
  have hz2 := hide hz2
  clear h
  go_enter Tryd.func92, Tryd.ntmps92
  go_wp2_with (at_builtin; refine wpList_append_own_at _ rfl _ _ 120 rfl g.heap.size 5 i (.int .u8 0) 1 1 Tryd.underlying120 hi.out hz0.out hz1.out hz2.out rfl (by decide) _ 0 [] rfl (hH.out.alloc.drop).ownsRow _ 1 _ [.int .u8 34] rfl rfl (cell_one_new _ _ _) (by simp [Value.oneCell']) (by simp [maxLen]) (by omega) (by have := hH.out.size; simp only [World.size_alloc]; omega) ?_)
  intro v1 w1 o1 g1 _ b1
  have h2 := hide (hH.out.alloc.drop.grown o1 g1 (by rcases b1 with b1 | b1; exact .inl b1; exact .inr ⟨_, b1, by simp⟩))
  clear o1 g1 b1 hH
  go_wp2
  refine wp_loop_rounds 1 ?_
  rw [rounds_succ]
  go_wp2_with (at_builtin; refine wpList_append_own_at _ rfl _ _ 120 rfl g.heap.size 5 i (.int .u8 0) 1 1 Tryd.underlying120 hi.out hz0.out hz1.out hz2.out rfl (by decide) _ 1 [.int .u8 34] rfl (h2.out.alloc.drop).ownsRow _ 1 _ [.int .u8 34] rfl rfl (cell_one_new _ _ _) (by simp [Value.oneCell']) (by simp [maxLen]) (by omega) (by have := h2.out.size; simp only [World.size_alloc]; omega) ?_)
  intro v2 w2 o2 g2 _ b2
  have h3 := hide (h2.out.alloc.drop.grown o2 g2 (by rcases b2 with b2 | b2; exact .inl b2; exact .inr ⟨_, b2, by simp⟩))
  clear o2 g2 b2 h2
  go_wp2
  go_ret
  exact ⟨_, rfl, h3.out⟩
theorem made0 : (madeCells (Value.int .u8 0).cells (0 * 1)).toList = [] := toList_madeCells_one _ 0
theorem quoteWith_0 (w : World) :
    Calls Tryd.prog 91 #[.string ⟨#[]⟩, .int .u8 34, .bool false, .bool false] w
      fun r w' => r = .returned (.string ⟨#[34, 34]⟩) ∧ Keep w w' := by
  obtain ⟨i, hi, hz0, hz1, hz2⟩ := info_parts infoByte
  have hi := hide hi
  have hz0 := hide hz0
  have hz1 := hide hz1
  have hz2 := hide hz2
  go_enter Tryd.func91, Tryd.ntmps91
  go_wp2_with (first
    | (at_make; refine wpList_make_full _ rfl _ _ 120 rfl w.heap.size 5 i (.int .u8 0) 1 Tryd.underlying120 hi.out hz0.out hz1.out .i64 .i64 _ _ 0 rfl rfl rfl rfl (by rw [hz2.out]; omega) (by simp only [maxLen]; omega) (Nat.le_refl _) ?_; intro w1 o1 g1; rw [made0] at o1; have H1 := hide (((Holds.start w).ownNil 5 1).grown o1 g1 (.inr ⟨_, rfl, Nat.le_refl _⟩)); clear o1 g1)
    | (go_at_call 92; (with_reducible refine (appendQuoted_0 w _ _ H1.out).mono ?_); rintro r w2 ⟨v, rfl, h2⟩; have hcv := RowAt.convert (P := Tryd.prog) (xs := [34, 34]) h2.rowAt Tryd.underlying120 Tryd.underlying5 Tryd.underlying9; have h2 := hide h2))
  go_ret
  exact ⟨rfl, h2.out.toKeep⟩
theorem Quote_0 (w : World) : Calls Tryd.prog 90 #[.string ⟨#[]⟩] w fun r w' => r = .returned (.string ⟨#[34, 34]⟩) ∧ Keep w w' := by
  go_enter Tryd.func90, Tryd.ntmps90
  go_wp2_with (go_at_call 91; refine (quoteWith_0 _).mono ?_; rintro r w1 ⟨rfl, h⟩; have h := hide h)
  go_ret
  exact ⟨rfl, h.out⟩
theorem methodError (w : World) : (Go.method 265 47 (.int .i64 1) "Error").run Tryd.prog w = .ok (74, .int .i64 1) w := by kernel_rfl
/-- (*api.Fault).Error, of a fault without a key over the number 1. -/
theorem Fault_Error (b : Nat) (op : ByteArray) (w : World) (hs : op.size ≤ 1000) (h : w.heap[b]? = some (.cells #[.string op, .string ⟨#[]⟩, .iface 47 (.int .i64 1)] 66)) :
    Calls Tryd.prog 88 #[.pointer (some ⟨b, 0, none⟩)] w fun r w' => ∃ s, r = .returned (.string s) ∧ s.toList ≠ [] ∧ Keep w w' := by
  have c0 : w.cell? ⟨b, 0, none⟩ = some (.string op) := by simp [World.cell?, h]
  have c1 : w.cell? ⟨b, 1, none⟩ = some (.string ⟨#[]⟩) := by simp [World.cell?, h]
  have c2 : w.cell? ⟨b, 2, none⟩ = some (.iface 47 (.int .i64 1)) := by simp [World.cell?, h]
  have q0 := fun u : KeptOf w => u.cell c0
  have q1 := fun u : KeptOf w => u.cell c1
  have q2 := fun u : KeptOf w => u.cell c2
  clear h
  have hm := methodError
  go_enter Tryd.func88, Tryd.ntmps88
  go_wp2
  refine wp_region_kept (by kernel_rfl) (by kernel_rfl) ?_
  iterate 9 (go_big_quiet_step (fail))
  go_big_quiet_step ((go_at_call 90; with_reducible exact KeptOf.calls (Quote_0 _)))
  iterate 6 (go_big_quiet_step (fail))
  quiet_step ((go_at_call 74; with_reducible exact KeptOf.calls ((Errno_Error_1 _).mono fun r w' ⟨h1, h2⟩ => ⟨h1, h2 ▸ Keep.refl _⟩)))
  iterate 2 (go_big_quiet_step (fail))
  refine wpQuiet_nil ?_
  intro _ hw'
  obtain ⟨uq, hw''⟩ := hw'
  subst hw''
  go_wp2
  go_ret
  exact ⟨_, rfl, by simp [ByteArray.toList_eq], uq.keep⟩
end Go.Proofs.YtfdeafiidaepgaaDoor
