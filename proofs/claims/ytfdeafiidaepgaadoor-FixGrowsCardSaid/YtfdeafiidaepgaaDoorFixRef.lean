/- cachewiseref01: rows of bits. -/
import Derived.Test.YtfdeafiidaepgaaDoorFixShare
import Derived.Test.YtfdeafiidaepgaaDoorRow
namespace Go.Proofs.YtfdeafiidaepgaaDoor
open Go Go.RowKit Go.Shelf Go.Proofs.Mul64

def bv (l : List Nat) : List Value := l.map fun b => .int .i64 (b : Nat)
def val : List Nat → Nat
  | [] => 0
  | b :: l => b + 2 * val l
theorem val_snoc (l : List Nat) (b : Nat) : val (l ++ [b]) = val l + 2 ^ l.length * b := by
  induction l with
  | nil => simp [val]
  | cons c l ih =>
    have h : 2 ^ (l.length + 1) * b = 2 * (2 ^ l.length * b) := by rw [Nat.pow_succ, Nat.mul_comm (2 ^ l.length) 2, Nat.mul_assoc]
    rw [List.cons_append, val, ih, val, List.length_cons, h]
    omega
theorem bv_snoc (l : List Nat) (b : Nat) : bv (l ++ [b]) = bv l ++ [.int .i64 (b : Nat)] := by simp [bv]
theorem bv_length (l : List Nat) : (bv l).length = l.length := by simp [bv]
def Bits (l : List Nat) : Prop := ∀ b, b ∈ l → b ≤ 1
theorem bits_snoc {l : List Nat} {b : Nat} (h : Bits l) (hb : b ≤ 1) : Bits (l ++ [b]) := fun c hc => by
  rcases List.mem_append.1 hc with hc | hc
  · exact h c hc
  · rw [List.mem_singleton.1 hc]; exact hb

theorem infoInt : (Tryd.prog.info? 3).map (fun i => (i.zero, i.size, i.bytes)) = some (some (.int .i64 0), 1, 8) := by kernel_rfl

theorem Ref_row (v : Nat) (hv : v < 18446744073709551616) (w : World) :
    Calls Tryd.prog 40 #[.int .u64 v] w fun r w' => ∃ s l, r = .returned s ∧ RowAt w' s (bv l) ∧ val l = v ∧ Bits l ∧ l.length ≤ 64 ∧ Keep w w' := by
  obtain ⟨i, hi, hz0, hz1, hz2⟩ := info_parts infoInt
  have hi := hide hi
  have hz0 := hide hz0
  have hz1 := hide hz1
  have hz2 := hide hz2
  go_enter Tryd.func40, Tryd.ntmps40
  go_wp2
  go_loopw [0, 3] (fun a b wr => ∃ (k : Nat) (l : List Nat), a = .int .u64 k ∧ k < 2 ^ (64 - l.length) ∧ l.length ≤ 64 ∧ val l + 2 ^ l.length * k = v ∧ Bits l ∧ Holds w wr [OwnRow 3 1 b l.length (bv l)]) (fun a _ _ => (intOf a).toNat)
  case atStart => exact ⟨v, [], rfl, by simpa using hv, by simp, by simp [val], fun b hb => (List.not_mem_nil hb).elim, (Holds.start w).ownNil _ _⟩
  case round =>
    obtain ⟨k, l, rfl, hk, hl, hval, hbits, hh⟩ := hrel
    have hH := hide hh
    have hvalH := hide hval
    have hbH := hide hbits
    have hkH := hide hk
    clear hh hval hbits hk
    rcases Nat.eq_zero_or_pos k with rfl | h0
    · go_wp2
      go_ret
      exact ⟨_, l, rfl, hH.out.rowAt, by simpa using hvalH.out, hbH.out, hl, hH.out.toKeep⟩
    · have h0' : (0 : Int) < k := by omega
      have hlt : l.length < 64 := by
        rcases Nat.lt_or_ge l.length 64 with h | h
        · exact h
        · have := hkH.out
          rw [show 64 - l.length = 0 by omega] at this
          omega
      have e1 : (k : Int).tmod 2 = ((k % 2 : Nat) : Int) := rfl
      have e2 : (k : Int).tdiv 2 = ((k / 2 : Nat) : Int) := rfl
      have hm : k % 2 ≤ 1 := by omega
      have hstep : 2 * (k / 2) + k % 2 = k := by omega
      obtain ⟨c, hc⟩ : ∃ c, k % 2 = c := ⟨_, rfl⟩
      obtain ⟨d, hd⟩ : ∃ d, k / 2 = d := ⟨_, rfl⟩
      rw [hc] at e1 hm hstep
      rw [hd] at e2 hstep
      have hdk : d < k := by omega
      have e3 : IntKind.i64.wrap (c : Int) = (c : Int) := IntWalk.i64_in _ (by omega)
      have e4 : IntKind.u64.wrap (d : Int) = (d : Int) := by
        have : k < 2 ^ 64 := Nat.lt_of_lt_of_le hkH.out (Nat.pow_le_pow_right (by omega) (by omega))
        exact wrapN _ (by omega)
      have hstep := hide hstep
      clear hc hd
      go_wp2_with (at_builtin; refine wpList_append_own_at _ rfl _ _ 56 rfl w.heap.size 3 i (.int .i64 0) 1 8 Tryd.underlying56 hi.out hz0.out hz1.out hz2.out rfl (by decide) _ l.length (bv l) rfl (hH.out.alloc.drop).ownsRow _ 1 _ [.int .i64 (c : Nat)] rfl rfl (cell_one_new _ _ _) (by simp [Value.oneCell']) (by simp only [maxLen]; omega) (by omega) (by have := hH.out.size; simp only [World.size_alloc]; omega) ?_)
      intro v' w' ho hg _ hb
      have h2 := hide (hH.out.alloc.drop.grown ho hg (by rcases hb with hb | hb; exact .inl hb; exact .inr ⟨_, hb, by simp⟩))
      clear ho hg hb
      go_wp2
      go_roundw
      case rel =>
        refine ⟨d, l ++ [c], rfl, ?_, by simp; omega, ?_, bits_snoc hbH.out hm, ?_⟩
        · have := hkH.out
          rw [show 64 - l.length = (64 - (l ++ [c]).length) + 1 by simp; omega, Nat.pow_succ] at this
          have := hstep.out
          omega
        · rw [val_snoc, ← hvalH.out, List.length_append, List.length_singleton, Nat.pow_succ, ← hstep.out, Nat.mul_add, Nat.mul_assoc]
          omega
        · rw [bv_snoc, List.length_append]
          exact h2.out
      case measure => (simp [intOf]; omega)

/-! ### A bit of a row -/
def bitAt (l : List Nat) (i : Int) : Nat := if i < 0 then 0 else l.getD i.toNat 0
theorem bv_get {l : List Nat} {k : Nat} (h : k < l.length) : (bv l)[k]? = some (.int .i64 ((l.getD k 0 : Nat) : Int)) := by
  simp [bv, List.getD, List.getElem?_eq_getElem h]
theorem Ref_bit (s : Value) (l : List Nat) (i : Int) (w : World) (h : RowAt w s (bv l)) :
    Calls Tryd.prog 48 #[s, .int .i64 i] w fun r w' => r = .returned (.int .i64 (bitAt l i : Nat)) ∧ Keep w w' := by
  by_cases h0 : i < 0
  · have e : bitAt l i = 0 := if_pos h0
    rw [e]
    clear e
    go_enter Tryd.func48, Tryd.ntmps48
    go_wp2
    go_ret
    exact ⟨rfl, Keep.refl _⟩
  · rcases h with ⟨rfl, hn⟩ | ⟨b, off, cap, rfl, h1, h2, h3⟩
    · have hl : l = [] := by
        have := congrArg List.length hn
        rw [bv_length] at this
        exact List.length_eq_zero_iff.1 this
      have e : bitAt l i = 0 := by rw [hl]; unfold bitAt; rw [if_neg h0]; rfl
      rw [e]
      clear e hn hl
      go_enter Tryd.func48, Tryd.ntmps48
      go_wp2
      go_ret
      exact ⟨rfl, Keep.refl _⟩
    · rw [bv_length] at h1 ⊢
      obtain ⟨k, rfl⟩ : ∃ k : Nat, i = k := ⟨i.toNat, by omega⟩
      by_cases hk : k < l.length
      · have e : bitAt l k = l.getD k 0 := by unfold bitAt; rw [if_neg h0]; rfl
        have hc := h3 k _ (bv_get hk)
        rw [e]
        obtain ⟨t, ht⟩ : ∃ t, l.getD k 0 = t := ⟨_, rfl⟩
        rw [ht] at hc ⊢
        have hk' : (k : Int) < (l.length : Int) := by omega
        clear e ht h3
        go_enter Tryd.func48, Tryd.ntmps48
        go_wp2
        go_ret
        exact ⟨rfl, Keep.refl _⟩
      · have e : bitAt l k = 0 := by unfold bitAt; rw [if_neg h0]; simp [List.getD, List.getElem?_eq_none (show l.length ≤ k by omega)]
        rw [e]
        have hk' : (l.length : Int) ≤ k := by omega
        clear e h3
        go_enter Tryd.func48, Tryd.ntmps48
        go_wp2
        go_ret
        exact ⟨rfl, Keep.refl _⟩
end Go.Proofs.YtfdeafiidaepgaaDoor
