/- A script that came in as an argument. -/
import Derived.Test.YteledfiechbhgaaGreatDoorQRefs10
namespace Go.Proofs.YteledfiechbhgaaGreatDoor
open Go Go.RowKit

set_option maxRecDepth 100000 in
theorem script_of_arg {W : World} {v : Value} (h : Arg Tryz.prog W 44 v) : ∃ sc : List Act5, ScriptAt W v sc := by
  have e3 : Tryz.prog.cellsOf 47 = 3 := by kernel_rfl
  rcases arg_slice Tryz.underlying44 h with rfl | ⟨a, len, cap, n, rfl, h1, h2, h3⟩
  · exact ⟨[], .inl ⟨rfl, rfl⟩⟩
  · rw [e3] at h3
    have hact : ∀ i, i < len → ∃ x : Act5, (a.add (i * 3)).spot = none ∧ W.cell? ⟨(a.add (i * 3)).block, (a.add (i * 3)).off, none⟩ = some (.int .i64 x.kind) ∧ W.cell? ⟨(a.add (i * 3)).block, (a.add (i * 3)).off + 1, none⟩ = some (.string x.key) ∧ W.cell? ⟨(a.add (i * 3)).block, (a.add (i * 3)).off + 2, none⟩ = some (.int .i64 x.n) := fun i hi => by
      obtain ⟨cs, hc, hs⟩ := h3 i hi
      obtain ⟨b, hb⟩ : ∃ b, a.add (i * 3) = b := ⟨_, rfl⟩
      rw [hb] at hc ⊢
      obtain ⟨_, hl, hat⟩ := World.cells?_some hc
      obtain ⟨_, n', hf⟩ := shp_struct Tryz.underlying47 hs
      have e1 : Tryz.prog.cellsOf 3 = 1 := by kernel_rfl
      have es : Tryz.prog.cellsOf 9 = 1 := by kernel_rfl
      match cs, hl with
      | [d0, d1, d2], _ =>
        have f0 := hf _ (List.mem_cons_self)
        have f1 := hf _ (List.mem_cons_of_mem _ List.mem_cons_self)
        have f2 := hf _ (List.mem_cons_of_mem _ (List.mem_cons_of_mem _ List.mem_cons_self))
        simp only [e1, es, List.drop_zero, List.drop_succ_cons, List.take_succ_cons, List.take_zero, List.take_nil] at f0 f1 f2
        obtain ⟨x, hx, _⟩ := shp_int Tryz.underlying3 f0
        obtain ⟨k, hk, _⟩ := shp_string Tryz.underlying9 f1
        obtain ⟨y, hy, _⟩ := shp_int Tryz.underlying3 f2
        simp only [List.cons.injEq, and_true] at hx hk hy
        subst hx hk hy
        have hsp : b.spot = none := by
          have h0 := hat 0 (by decide)
          rw [show b.add 0 = b by unfold Addr.add; exact if_pos rfl] at h0
          exact spot_none h0
        obtain ⟨ab, ao, asp⟩ := b
        simp only at hsp
        subst hsp
        refine ⟨⟨x, k, y⟩, rfl, ?_, ?_, ?_⟩
        · have h0 := hat 0 (by decide); rw [addr_add] at h0; exact h0
        · have h0 := hat 1 (by decide); rw [addr_add] at h0; exact h0
        · have h0 := hat 2 (by decide); rw [addr_add] at h0; exact h0
    obtain ⟨g, hg⟩ : ∃ g : Nat → Act5, ∀ i, i < len → (a.add (i * 3)).spot = none ∧ W.cell? ⟨(a.add (i * 3)).block, (a.add (i * 3)).off, none⟩ = some (.int .i64 (g i).kind) ∧ W.cell? ⟨(a.add (i * 3)).block, (a.add (i * 3)).off + 1, none⟩ = some (.string (g i).key) ∧ W.cell? ⟨(a.add (i * 3)).block, (a.add (i * 3)).off + 2, none⟩ = some (.int .i64 (g i).n) := by
      refine ⟨fun i => if hi : i < len then Classical.choose (hact i hi) else ⟨0, ⟨#[]⟩, 0⟩, fun i hi => ?_⟩
      dsimp only
      rw [dif_pos hi]
      exact Classical.choose_spec (hact i hi)
    refine ⟨(List.range len).map g, .inr ⟨a, cap, by simp, fun i x hx => ?_⟩⟩
    rw [List.getElem?_map, Option.map_eq_some_iff] at hx
    obtain ⟨k, hk, rfl⟩ := hx
    obtain ⟨hj, rfl⟩ := List.getElem?_eq_some_iff.1 hk
    rw [List.length_range] at hj
    rw [List.getElem_range]
    have h0 := hg 0 (by omega)
    have ha : a.spot = none := by
      have := h0.1
      rwa [Nat.zero_mul, show a.add 0 = a by unfold Addr.add; exact if_pos rfl] at this
    have h1 := (hg i hj).2
    obtain ⟨ab, ao, asp⟩ := a
    simp only at ha
    subst ha
    rw [addr_add] at h1
    exact ⟨rfl, h1⟩
end Go.Proofs.YteledfiechbhgaaGreatDoor
