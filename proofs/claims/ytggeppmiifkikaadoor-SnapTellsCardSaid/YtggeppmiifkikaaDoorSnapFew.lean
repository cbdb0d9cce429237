/- cachewiselaw16.Few. -/
import Derived.Test.YtggeppmiifkikaaDoorSnapArg
namespace Go.Proofs.YtggeppmiifkikaaDoor
open Go Go.RowKit Go.Shelf

def smallI (x : It) : Prop := x.key.size ≤ 300 ∧ x.val.size ≤ 600
instance (x : It) : Decidable (smallI x) := by unfold smallI; infer_instance
def FewL (l : List It) : Prop := l.length ≤ 40 ∧ ∀ x ∈ l, smallI x
instance (l : List It) : Decidable (FewL l) := by unfold FewL; infer_instance
theorem FewL.few {p : Pic} (h : FewL p.items) (hf : PicFits p) : FewP p := ⟨h.1, fun x hx => h.2 x hx, fun x hx => (hf.item x hx).1.2⟩
theorem ret_b {a b : Bool} (h : a = b) : Ending.returned (.bool a) = .returned (.bool b) := by rw [h]
set_option maxRecDepth 100000 in
set_option maxHeartbeats 2000000 in
theorem Few_val (p : Pic) (v : Value) (w : World) (hv : ItemsAt w v p.items) (hl : p.items.length ≤ maxLen) (b : Bool) (hb : decide (FewL p.items) = b) :
    Calls Tryd.prog 10 #[.agg (picCells p v)] w fun r w' => r = .returned (.bool b) ∧ Keep w w' := by
  obtain ⟨ao, cap, rfl⟩ := hv.shape
  have H0 := (Holds.start w).alloc (o := .cells (picCells p (.slice ao p.items.length cap)) 26)
  have c9 : (w.alloc (.cells (picCells p (.slice ao p.items.length cap)) 26)).cell? ⟨w.heap.size, 9, none⟩ = some (.slice ao p.items.length cap) := H0.cell rfl
  have k0 := hide H0.drop.toKeep
  clear H0
  obtain ⟨n, hn⟩ : ∃ n, p.items.length = n := ⟨_, rfl⟩
  simp only [maxLen] at hl
  rw [hn] at c9 hl k0
  have hv := hide hv
  have hb := hide hb
  unfold picCells at c9 k0 ⊢
  rw [hn]
  have hn := hide hn
  go_enter Tryd.func10, Tryd.ntmps10
  go_wp2
  go_loop [3] (fun i => ∃ k : Nat, i = .int .i64 k ∧ k ≤ n ∧ Hide (k ≤ 40 ∧ ∀ j x, j < k → p.items[j]? = some x → smallI x)) (fun i => (n - intOf i).toNat)
  case atStart => exact ⟨0, rfl, Nat.zero_le _, ⟨Nat.zero_le _, fun j x hj => by omega⟩⟩
  case round =>
    obtain ⟨k, rfl, hk, hR⟩ := hrel
    by_cases hlt : k < n
    · have hlt' : (k : Int) < n := by omega
      obtain ⟨x, hx⟩ : ∃ x, p.items[k]? = some x := ⟨_, List.getElem?_eq_getElem (by have := hn.out; omega)⟩
      have hmem : x ∈ p.items := List.mem_of_getElem? hx
      rcases hv.out with ⟨_, hnil⟩ | ⟨bb, off, cap', he, e1, e2, e3⟩
      · have := hn.out
        rw [hnil] at this
        simp at this
        omega
      · obtain ⟨rfl, _, rfl⟩ : ao = some ⟨bb, off, none⟩ ∧ True ∧ cap = cap' := by
          simp only [Value.slice.injEq] at he
          exact ⟨he.1, trivial, he.2.2⟩
        obtain ⟨q0, q1, q2⟩ := e3 k x hx
        have q0 := k0.out.cell q0
        have q1 := k0.out.cell q1
        have hfal : Hide ((¬ smallI x ∨ 40 ≤ k) → false = b) := ⟨fun h => by
          rw [← hb.out]
          symm
          refine decide_eq_false fun hf => ?_
          rcases h with h | h
          · exact h (hf.2 x hmem)
          · have := hf.1
            have := hn.out
            omega⟩
        have hnx : Hide (smallI x → k < 40 → (k + 1 ≤ 40 ∧ ∀ j y, j < k + 1 → p.items[j]? = some y → smallI y)) := ⟨fun h1 h2 => ⟨h2, fun j y hj hy => by
          by_cases hjk : j < k
          · exact hR.out.2 j y hjk hy
          · obtain rfl : j = k := by omega
            rw [hx] at hy
            cases hy
            exact h1⟩⟩
        clear hx he e3 q2 hmem
        obtain ⟨key, val, dl⟩ := x
        dsimp only at q0 q1
        obtain ⟨a, ha⟩ : ∃ a, key.size = a := ⟨_, rfl⟩
        obtain ⟨c, hc⟩ : ∃ c, val.size = c := ⟨_, rfl⟩
        have hsm : Hide (smallI ⟨key, val, dl⟩ ↔ a ≤ 300 ∧ c ≤ 600) := ⟨by unfold smallI; rw [ha, hc]⟩
        by_cases h40 : 40 ≤ k
        · go_wp2
          go_ret
          exact ⟨ret_b (hfal.out (.inr h40)), k0.out⟩
        · by_cases h3 : 300 < a
          · go_wp2
            go_ret
            exact ⟨ret_b (hfal.out (.inl fun h => by have := hsm.out.1 h; omega)), k0.out⟩
          · by_cases h6 : 600 < c
            · go_wp2
              go_ret
              exact ⟨ret_b (hfal.out (.inl fun h => by have := hsm.out.1 h; omega)), k0.out⟩
            · go_wp2
              go_round
              case rel => exact ⟨k + 1, by go_num, hlt, ⟨hnx.out (hsm.out.2 ⟨by omega, by omega⟩) (by omega)⟩⟩
              case measure => (simp [intOf] <;> omega)
    · obtain rfl : k = n := by omega
      go_wp2
      go_ret
      refine ⟨ret_b ?_, k0.out⟩
      rw [← hb.out]
      symm
      refine decide_eq_true ⟨by have := hR.out.1; have := hn.out; omega, fun x hx => ?_⟩
      obtain ⟨j, hj⟩ := List.getElem?_of_mem hx
      have hjl : j < p.items.length := (List.getElem?_eq_some_iff.1 hj).1
      exact hR.out.2 j x (by have := hn.out; omega) hj
end Go.Proofs.YtggeppmiifkikaaDoor
