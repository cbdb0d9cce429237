/- The references' Has and Same, at rows of keys. -/
import Derived.Test.YteledfiechbhgaaGreatDoorQApp
import Derived.Deep.QuietTactic
import Derived.BigQuiet
import Derived.Test.YteledfiechbhgaaGreatDoorQDraw3
import Derived.Test.YteledfiechbhgaaGreatDoorQLift
namespace Go.Proofs.YteledfiechbhgaaGreatDoor
open Go Go.RowKit

theorem strs_get? {l : List ByteArray} {i : Nat} {x : ByteArray} (h : l[i]? = some x) : (strs l)[i]? = some (.string x) := by unfold strs; rw [List.getElem?_map, h]; rfl
set_option maxRecDepth 100000
set_option maxHeartbeats 1000000
theorem Ref3_Has {w : World} {v : Value} {l : List ByteArray} (h : RowAt w v (strs l)) (hl : l.length ≤ 10000000) (key : ByteArray) (d : Bool) (hd : decide (key ∈ l) = d) :
    Calls Tryz.prog 15 #[v, .string key] w fun r w' => r = .returned (.bool d) ∧ w = w' := by
  obtain ⟨ao, cap, hv⟩ := h.shape
  rw [strs_length] at hv
  subst hv
  obtain ⟨n, hn⟩ : ∃ n, l.length = n := ⟨_, rfl⟩
  rw [hn] at h hl ⊢
  replace hn := hide hn
  replace hd := hide hd
  replace h := hide h
  go_enter Tryz.func15, Tryz.ntmps15
  go_wp2
  go_loopg [5] (n) (fun c x wr => ∃ i, Hide (n - i = c) ∧ i ≤ n ∧ x = .int .i64 (i : Nat) ∧ Hide (key ∉ l.take i) ∧ w = wr)
  case atStart => exact ⟨0, ⟨rfl⟩, Nat.zero_le _, rfl, ⟨by simp⟩, rfl⟩
  case round =>
    obtain ⟨i, hci, hin, rfl, hno, rfl⟩ := hrel
    by_cases hlt : i < n
    · have hlt' : (i : Int) < n := by omega
      have e1 : IntKind.i64.wrap ((i : Int) + 1) = ((i + 1 : Nat) : Int) := by rw [IntWalk.i64_in _ (by omega)]; omega
      obtain ⟨x, hx⟩ : ∃ x, l[i]? = some x := ⟨_, List.getElem?_eq_getElem (by rw [hn.out]; exact hlt)⟩
      rcases h.out with ⟨hv, hnil⟩ | ⟨b, off, cap2, hv, _, _, hcell⟩
      · have := congrArg List.length hnil
        rw [strs_length, hn.out] at this
        simp at this
        omega
      · rw [strs_length, hn.out] at hv
        obtain ⟨rfl, rfl⟩ : ao = some ⟨b, off, none⟩ ∧ cap = cap2 := by cases hv; exact ⟨rfl, rfl⟩
        have cx := hcell i _ (strs_get? hx)
        replace hx := hide hx
        clear hcell hv
        by_cases hk : x.toList = key.toList
        · have he : x = key := bytes_inj hk
          have hmem : Hide (true = d) := ⟨by rw [← hd.out]; exact (decide_eq_true (by rw [← he]; exact List.mem_of_getElem? hx.out)).symm⟩
          clear he
          go_wp2
          go_ret
          exact ⟨by rw [← hmem.out]; rfl, rfl⟩
        · have hkf : (x.toList == key.toList) = false := by rw [beq_eq_false_iff_ne]; exact hk
          have hno2 : Hide (key ∉ l.take (i + 1)) := ⟨by
            rw [List.take_add_one, hx.out]
            intro hm
            rcases List.mem_append.1 hm with hm | hm
            · exact hno.out hm
            · have : key = x := by simpa using hm
              exact hk (by rw [this])⟩
          go_wp2
          go_roundg (n - (i + 1))
          case measure => rw [← hci.out]; omega
          case rel => exact ⟨i + 1, ⟨rfl⟩, by omega, rfl, hno2, rfl⟩
    · obtain rfl : i = n := by omega
      have hlt' : ¬ (i : Int) < i := by omega
      have hmem : Hide (false = d) := ⟨by rw [← hd.out]; exact (decide_eq_false (by have := hno.out; rw [List.take_of_length_le (by rw [hn.out]; exact Nat.le_refl _)] at this; exact this)).symm⟩
      go_wp2
      go_ret
      exact ⟨by rw [← hmem.out]; rfl, rfl⟩
/-- Two rows that read the same are the same. -/
theorem Ref3_Same {w : World} {v u : Value} {l : List ByteArray} (h : RowAt w v (strs l)) (h2 : RowAt w u (strs l)) (hl : l.length ≤ 10000000) :
    Calls Tryz.prog 24 #[v, u] w fun r w' => r = .returned (.bool true) ∧ ∃ m, w' = w.drewN m := by
  obtain ⟨ao, cap, hv⟩ := h.shape
  obtain ⟨ao2, cap2, hu⟩ := h2.shape
  rw [strs_length] at hv hu
  subst hv
  subst hu
  obtain ⟨n, hn⟩ : ∃ n, l.length = n := ⟨_, rfl⟩
  rw [hn] at h h2 hl ⊢
  replace hn := hide hn
  replace h := hide h
  replace h2 := hide h2
  go_enter Tryz.func24, Tryz.ntmps24
  go_wp2
  go_loopg [5] (n) (fun c x wr => ∃ i m, Hide (n - i = c) ∧ i ≤ n ∧ x = .int .i64 (i : Nat) ∧ wr = w.drewN m)
  case atStart => exact ⟨0, 0, ⟨rfl⟩, Nat.zero_le _, rfl, rfl⟩
  case round =>
    obtain ⟨i, m, hci, hin, rfl, rfl⟩ := hrel
    by_cases hlt : i < n
    · have hlt' : (i : Int) < n := by omega
      have e1 : IntKind.i64.wrap ((i : Int) + 1) = ((i + 1 : Nat) : Int) := by rw [IntWalk.i64_in _ (by omega)]; omega
      obtain ⟨x, hx⟩ : ∃ x, l[i]? = some x := ⟨_, List.getElem?_eq_getElem (by rw [hn.out]; exact hlt)⟩
      have hnl : ¬ strs l = [] := fun hnil => by
        have := congrArg List.length hnil
        rw [strs_length, hn.out] at this
        simp at this
        omega
      rcases h.out with ⟨hv, hnil⟩ | ⟨b, off, cap3, hv, _, _, hcell⟩
      · exact absurd hnil hnl
      rcases h2.out with ⟨hu, hnil⟩ | ⟨b2, off2, cap4, hu, _, _, hcell2⟩
      · exact absurd hnil hnl
      rw [strs_length, hn.out] at hv hu
      obtain ⟨rfl, rfl⟩ : ao = some ⟨b, off, none⟩ ∧ cap = cap3 := by cases hv; exact ⟨rfl, rfl⟩
      obtain ⟨rfl, rfl⟩ : ao2 = some ⟨b2, off2, none⟩ ∧ cap2 = cap4 := by cases hu; exact ⟨rfl, rfl⟩
      have cx : w.cell? ⟨b, off + i, none⟩ = some (.string x) := hcell i _ (strs_get? hx)
      have cy : w.cell? ⟨b2, off2 + i, none⟩ = some (.string x) := hcell2 i _ (strs_get? hx)
      clear hcell hcell2 hv hu hx hnl
      go_wp2
      go_quiet (fail)
      go_wp2
      go_roundg (n - (i + 1))
      case measure => rw [← hci.out]; omega
      case rel => exact ⟨i + 1, m + nq, ⟨rfl⟩, by omega, rfl, rfl⟩
    · obtain rfl : i = n := by omega
      have hlt' : ¬ (i : Int) < i := by omega
      go_wp2
      go_ret
      exact ⟨rfl, m, rfl⟩
/-! ### Acts -/
structure Act5 where
  kind : Int
  key : ByteArray
  n : Int
def actCells (a : Act5) : List Value := [.int .i64 a.kind, .string a.key, .int .i64 a.n]
/-- The slice v reads as a script; an empty one may lie anywhere. -/
def ScriptAt (w : World) (v : Value) (s : List Act5) : Prop :=
  (v = .slice none 0 0 ∧ s = []) ∨ ∃ a0 cap, v = .slice (some a0) s.length cap ∧ ∀ (i : Nat) (a : Act5), s[i]? = some a → a0.spot = none ∧ w.cell? ⟨a0.block, a0.off + i * 3, none⟩ = some (.int .i64 a.kind) ∧ w.cell? ⟨a0.block, a0.off + i * 3 + 1, none⟩ = some (.string a.key) ∧ w.cell? ⟨a0.block, a0.off + i * 3 + 2, none⟩ = some (.int .i64 a.n)
theorem ScriptAt.shape {w : World} {v : Value} {s : List Act5} (h : ScriptAt w v s) : ∃ ao cap, v = .slice ao s.length cap := by
  rcases h with ⟨rfl, rfl⟩ | ⟨a0, cap, rfl, _⟩
  · exact ⟨_, _, rfl⟩
  · exact ⟨_, _, rfl⟩
theorem ScriptAt.keep {w w' : World} {v : Value} {s : List Act5} (h : ScriptAt w v s) (k : Keep w w') : ScriptAt w' v s := by
  rcases h with h | ⟨a0, cap, h1, h2⟩
  · exact .inl h
  · exact .inr ⟨a0, cap, h1, fun i a ha => ⟨(h2 i a ha).1, k.cell (h2 i a ha).2.1, k.cell (h2 i a ha).2.2.1, k.cell (h2 i a ha).2.2.2⟩⟩
/-- An act of a script, in memory. -/
theorem ScriptAt.cells {w : World} {ao : Option Addr} {n cap : Nat} {s : List Act5} (h : ScriptAt w (.slice ao n cap) s) {i : Nat} {a : Act5} (ha : s[i]? = some a) :
    ∃ b off, ao = some ⟨b, off, none⟩ ∧ w.cell? ⟨b, off + i * 3, none⟩ = some (.int .i64 a.kind) ∧ w.cell? ⟨b, off + i * 3 + 1, none⟩ = some (.string a.key) ∧ w.cell? ⟨b, off + i * 3 + 2, none⟩ = some (.int .i64 a.n) := by
  rcases h with ⟨_, hnil⟩ | ⟨a0, cap2, hv, hcell⟩
  · rw [hnil] at ha; simp at ha
  · cases hv
    obtain ⟨h1, h2, h3, h4⟩ := hcell i a ha
    obtain ⟨b, off, sp⟩ := a0
    simp only at h1
    subst h1
    exact ⟨b, off, rfl, h2, h3, h4⟩
def few (s : List Act5) : Bool := decide (s.length ≤ 200) && s.all fun a => decide (a.key.size ≤ 200)
end Go.Proofs.YteledfiechbhgaaGreatDoor
/- The laws' Few, at any script. -/
namespace Go.Proofs.YteledfiechbhgaaGreatDoor
open Go Go.RowKit

set_option maxRecDepth 100000
set_option maxHeartbeats 1000000
theorem Few_any {w : World} {v : Value} {s : List Act5} (h : ScriptAt w v s) (d : Bool) (hd : few s = d) :
    Calls Tryz.prog 21 #[v] w fun r w' => r = .returned (.bool d) ∧ w = w' := by
  obtain ⟨ao, cap, hv⟩ := h.shape
  subst hv
  obtain ⟨n, hn⟩ : ∃ n, s.length = n := ⟨_, rfl⟩
  rw [hn] at h ⊢
  replace hn := hide hn
  replace hd := hide hd
  replace h := hide h
  go_enter Tryz.func21, Tryz.ntmps21
  go_wp2
  go_loopg [3] (n) (fun c x wr => ∃ i, Hide (n - i = c) ∧ i ≤ n ∧ i ≤ 200 ∧ x = .int .i64 (i : Nat) ∧ Hide (∀ a ∈ s.take i, a.key.size ≤ 200) ∧ w = wr)
  case atStart => exact ⟨0, ⟨rfl⟩, Nat.zero_le _, Nat.zero_le _, rfl, ⟨by simp⟩, rfl⟩
  case round =>
    obtain ⟨i, hci, hin, hi2, rfl, hal, rfl⟩ := hrel
    by_cases hlt : i < n
    · have hlt' : (i : Int) < n := by omega
      by_cases h200 : i = 200
      · subst h200
        have hr : Hide (false = d) := ⟨by rw [← hd.out]; unfold few; rw [decide_eq_false (by rw [hn.out]; omega)]; rfl⟩
        clear hal
        go_wp2
        go_ret
        exact ⟨by rw [← hr.out]; rfl, rfl⟩
      · have g1 : ¬ (200 : Int) ≤ i := by omega
        have e1 : IntKind.i64.wrap ((i : Int) + 1) = ((i + 1 : Nat) : Int) := by rw [IntWalk.i64_in _ (by omega)]; omega
        obtain ⟨a, ha⟩ : ∃ a, s[i]? = some a := ⟨_, List.getElem?_eq_getElem (by rw [hn.out]; exact hlt)⟩
        obtain ⟨b, off, hao, _, cx, _⟩ := h.out.cells ha
        subst hao
        obtain ⟨key, hkey⟩ : ∃ k, a.key = k := ⟨_, rfl⟩
        rw [hkey] at cx
        replace ha := hide ha
        replace hkey := hide hkey
        by_cases hk : 200 < key.size
        · have hk' : (200 : Int) < key.size := by omega
          have hr : Hide (false = d) := ⟨by
            rw [← hd.out]
            unfold few
            rw [show (s.all fun a => decide (a.key.size ≤ 200)) = false from List.all_eq_false.2 ⟨a, List.mem_of_getElem? ha.out, by rw [hkey.out]; simp; omega⟩, Bool.and_false]⟩
          go_wp2
          go_ret
          exact ⟨by rw [← hr.out]; rfl, rfl⟩
        · have hk' : ¬ (200 : Int) < key.size := by omega
          have hal2 : Hide (∀ a ∈ s.take (i + 1), a.key.size ≤ 200) := ⟨by
            rw [List.take_add_one, ha.out]
            intro c hc
            rcases List.mem_append.1 hc with hc | hc
            · exact hal.out c hc
            · have : c = a := by simpa using hc
              rw [this, hkey.out]; omega⟩
          go_wp2
          go_roundg (n - (i + 1))
          case measure => rw [← hci.out]; omega
          case rel => exact ⟨i + 1, ⟨rfl⟩, by omega, by omega, rfl, hal2, rfl⟩
    · obtain rfl : i = n := by omega
      have hlt' : ¬ (i : Int) < i := by omega
      have hr : Hide (true = d) := ⟨by
        rw [← hd.out]
        unfold few
        rw [decide_eq_true (by rw [hn.out]; exact hi2), List.all_eq_true.2 (fun a ha => ?_), Bool.and_true]
        have := hal.out
        rw [List.take_of_length_le (by rw [hn.out]; exact Nat.le_refl _)] at this
        exact decide_eq_true (this a ha)⟩
      go_wp2
      go_ret
      exact ⟨by rw [← hr.out]; rfl, rfl⟩
theorem few_len {s : List Act5} (h : few s = true) : s.length ≤ 200 := by
  unfold few at h
  rw [Bool.and_eq_true] at h
  exact of_decide_eq_true h.1
end Go.Proofs.YteledfiechbhgaaGreatDoor
/- Lanes, keys and scripts, as arguments of a law. -/
namespace Go.Proofs.YteledfiechbhgaaGreatDoor
open Go Go.RowKit

theorem addr_add (b off : Nat) (j : Nat) : (⟨b, off, none⟩ : Addr).add j = ⟨b, off + j, none⟩ := by unfold Addr.add; split <;> simp_all
theorem spot_none {W : World} {a : Addr} {v : Value} (h : W.cell? a = some v) : a.spot = none := by
  unfold World.cell? at h
  split at h
  · split at h
    · cases h
    · rename_i hs; simpa using hs
  · cases h
theorem row_of_cells {W : World} {a : Addr} {len cap : Nat} {α : Type} [Inhabited α] (f : α → Value) (Q : α → Prop) (hc : len ≤ cap) (hm : cap ≤ maxLen) (h : ∀ i, i < len → ∃ x, Q x ∧ W.cell? (a.add i) = some (f x)) :
    ∃ l : List α, RowR W (.slice (some a) len cap) (l.map f) ∧ ∀ x ∈ l, Q x := by
  cases len with
  | zero => exact ⟨[], .inr ⟨rfl, a, cap, rfl⟩, fun x hx => by cases hx⟩
  | succ m =>
    have hsp : a.spot = none := by
      obtain ⟨x, _, hx⟩ := h 0 (by omega)
      rw [show a.add 0 = a by unfold Addr.add; exact if_pos rfl] at hx
      exact spot_none hx
    obtain ⟨ab, ao, asp⟩ := a
    simp only at hsp
    subst hsp
    obtain ⟨g, hg⟩ : ∃ g : Nat → α, ∀ i, i < m + 1 → Q (g i) ∧ W.cell? ((⟨ab, ao, none⟩ : Addr).add i) = some (f (g i)) := by
      refine ⟨fun i => if hi : i < m + 1 then Classical.choose (h i hi) else default, fun i hi => ?_⟩
      dsimp only
      rw [dif_pos hi]
      exact Classical.choose_spec (h i hi)
    refine ⟨(List.range (m + 1)).map g, .inl (.inr ⟨ab, ao, cap, by simp, by simpa using hc, hm, fun j u hu => ?_⟩), fun x hx => ?_⟩
    · rw [List.map_map, List.getElem?_map, Option.map_eq_some_iff] at hu
      obtain ⟨k, hk, rfl⟩ := hu
      obtain ⟨hj, rfl⟩ := List.getElem?_eq_some_iff.1 hk
      rw [List.length_range] at hj
      rw [List.getElem_range]
      have := (hg j hj).2
      rw [addr_add] at this
      exact this
    · obtain ⟨k, hk, rfl⟩ := List.mem_map.1 hx
      exact (hg k (by simpa using hk)).1
theorem lane_of_arg {W : World} {v : Value} (h : Arg Tryz.prog W 22 v) : ∃ lane : List Nat, RowR W v (nums64 lane) ∧ ∀ x ∈ lane, x < 18446744073709551616 := by
  have e1 : Tryz.prog.cellsOf 28 = 1 := by kernel_rfl
  rcases arg_slice Tryz.underlying22 h with rfl | ⟨a, len, cap, n, rfl, h1, h2, h3⟩
  · exact ⟨[], .inl (.inl ⟨rfl, rfl⟩), fun x hx => by cases hx⟩
  · rw [e1] at h3
    exact row_of_cells (fun n : Nat => Value.int .u64 (n : Nat)) (fun x => x < 18446744073709551616) h1 h2 fun i hi => by
      obtain ⟨cs, hc, hs⟩ := h3 i hi
      obtain ⟨x, rfl, hw⟩ := shp_int Tryz.underlying28 hs
      obtain ⟨_, _, hat⟩ := World.cells?_some hc
      have h0 := hat 0 (by decide)
      rw [Nat.mul_one] at h0
      have hb := u64_bounds hw
      refine ⟨x.toNat, by omega, ?_⟩
      have e : ((x.toNat : Nat) : Int) = x := by omega
      rw [e]
      simpa [show (a.add i).add 0 = a.add i by unfold Addr.add; exact if_pos rfl] using h0
theorem keys_of_arg {W : World} {v : Value} (h : Arg Tryz.prog W 23 v) : ∃ keys : List ByteArray, RowR W v (strs keys) := by
  have e1 : Tryz.prog.cellsOf 9 = 1 := by kernel_rfl
  rcases arg_slice Tryz.underlying23 h with rfl | ⟨a, len, cap, n, rfl, h1, h2, h3⟩
  · exact ⟨[], .inl (.inl ⟨rfl, rfl⟩)⟩
  · rw [e1] at h3
    obtain ⟨l, hl, _⟩ := row_of_cells (W := W) (a := a) (Value.string) (fun _ => True) h1 h2 fun i hi => by
      obtain ⟨cs, hc, hs⟩ := h3 i hi
      obtain ⟨x, rfl, _⟩ := shp_string Tryz.underlying9 hs
      obtain ⟨_, _, hat⟩ := World.cells?_some hc
      have h0 := hat 0 (by decide)
      rw [Nat.mul_one] at h0
      exact ⟨x, trivial, by simpa [show (a.add i).add 0 = a.add i by unfold Addr.add; exact if_pos rfl] using h0⟩
    exact ⟨l, hl⟩
end Go.Proofs.YteledfiechbhgaaGreatDoor
