/- The references' Has and Same, at rows of keys. -/
import Derived.Test.YtbbdimlpofjlfaaGreatDoorQApp
import Derived.Deep.QuietTactic
import Derived.BigQuiet
import Derived.Test.YtbbdimlpofjlfaaGreatDoorQDraw1
import Derived.Test.YtbbdimlpofjlfaaGreatDoorQLift
import Derived.Test.YtbbdimlpofjlfaaGreatDoorQTwAw11
namespace Go.Proofs.YtbbdimlpofjlfaaGreatDoor
open Go Go.RowKit

theorem strs_get? {l : List ByteArray} {i : Nat} {x : ByteArray} (h : l[i]? = some x) : (strs l)[i]? = some (.string x) := by unfold strs; rw [List.getElem?_map, h]; rfl
set_option maxRecDepth 100000
set_option maxHeartbeats 1000000
theorem Ref3_Has {w : World} {v : Value} {l : List ByteArray} (h : RowAt w v (strs l)) (hl : l.length ≤ 10000000) (key : ByteArray) (d : Bool) (hd : decide (key ∈ l) = d) :
    Calls Tryz.prog 17 #[v, .string key] w fun r w' => r = .returned (.bool d) ∧ w = w' := by
  obtain ⟨ao, cap, hv⟩ := h.shape
  rw [strs_length] at hv
  subst hv
  obtain ⟨n, hn⟩ : ∃ n, l.length = n := ⟨_, rfl⟩
  rw [hn] at h hl ⊢
  replace hn := hide hn
  replace hd := hide hd
  replace h := hide h
  go_enter Tryz.func17, Tryz.ntmps17
  go_wp2
  go_loopg [5] (n) (fun c x wr => ∃ i, Hide (n - i = c) ∧ i ≤ n ∧ x = .int .i64 (i : Nat) ∧ Hide (key ∉ l.take i) ∧ w = wr)
  case atStart => exact ⟨0, ⟨rfl⟩, Nat.zero_le _, rfl, ⟨by simp⟩, rfl⟩
  case round =>
    obtain ⟨i, hci, hin, rfl, hno, rfl⟩ := hrel
    by_cases hlt : i < n
    · have hlt' : (i : Int) < n := by omega
      have e1 : IntKind.i64.wrap ((i : Int) + 1) = ((i + 1 : Nat) : Int) := by rw [IntWalk.i64_in _ (by omega)]; omega
      obtain ⟨x, hx⟩ : ∃ x, l[i]? = some x := ⟨_, List.getElem?_eq_getElem (by rw [hn.out]; exact hlt)⟩
      rcases h.out with ⟨hv, hnil⟩ | ⟨b, off, cap2, hv, _, _, hcell⟩
      · have := congrArg List.length hnil
        rw [strs_length, hn.out] at this
        simp at this
        omega
      · rw [strs_length, hn.out] at hv
        obtain ⟨rfl, rfl⟩ : ao = some ⟨b, off, none⟩ ∧ cap = cap2 := by cases hv; exact ⟨rfl, rfl⟩
        have cx := hcell i _ (strs_get? hx)
        replace hx := hide hx
        clear hcell hv
        by_cases hk : x.toList = key.toList
        · have he : x = key := bytes_inj hk
          have hmem : Hide (true = d) := ⟨by rw [← hd.out]; exact (decide_eq_true (by rw [← he]; exact List.mem_of_getElem? hx.out)).symm⟩
          clear he
          go_wp2
          go_ret
          exact ⟨by rw [← hmem.out]; rfl, rfl⟩
        · have hkf : (x.toList == key.toList) = false := by rw [beq_eq_false_iff_ne]; exact hk
          have hno2 : Hide (key ∉ l.take (i + 1)) := ⟨by
            rw [List.take_add_one, hx.out]
            intro hm
            rcases List.mem_append.1 hm with hm | hm
            · exact hno.out hm
            · have : key = x := by simpa using hm
              exact hk (by rw [this])⟩
          go_wp2
          go_roundg (n - (i + 1))
          case measure => rw [← hci.out]; omega
          case rel => exact ⟨i + 1, ⟨rfl⟩, by omega, rfl, hno2, rfl⟩
    · obtain rfl : i = n := by omega
      have hlt' : ¬ (i : Int) < i := by omega
      have hmem : Hide (false = d) := ⟨by rw [← hd.out]; exact (decide_eq_false (by have := hno.out; rw [List.take_of_length_le (by rw [hn.out]; exact Nat.le_refl _)] at this; exact this)).symm⟩
      go_wp2
      go_ret
      exact ⟨by rw [← hmem.out]; rfl, rfl⟩
/-- Two rows that read the same are the same. -/
theorem Ref3_Same {w : World} {v u : Value} {l : List ByteArray} (h : RowAt w v (strs l)) (h2 : RowAt w u (strs l)) (hl : l.length ≤ 10000000) :
    Calls Tryz.prog 20 #[v, u] w fun r w' => r = .returned (.bool true) ∧ ∃ m, w' = w.drewN m := by
  obtain ⟨ao, cap, hv⟩ := h.shape
  obtain ⟨ao2, cap2, hu⟩ := h2.shape
  rw [strs_length] at hv hu
  subst hv
  subst hu
  obtain ⟨n, hn⟩ : ∃ n, l.length = n := ⟨_, rfl⟩
  rw [hn] at h h2 hl ⊢
  replace hn := hide hn
  replace h := hide h
  replace h2 := hide h2
  go_enter Tryz.func20, Tryz.ntmps20
  go_wp2
  go_loopg [5] (n) (fun c x wr => ∃ i m, Hide (n - i = c) ∧ i ≤ n ∧ x = .int .i64 (i : Nat) ∧ wr = w.drewN m)
  case atStart => exact ⟨0, 0, ⟨rfl⟩, Nat.zero_le _, rfl, rfl⟩
  case round =>
    obtain ⟨i, m, hci, hin, rfl, rfl⟩ := hrel
    by_cases hlt : i < n
    · have hlt' : (i : Int) < n := by omega
      have e1 : IntKind.i64.wrap ((i : Int) + 1) = ((i + 1 : Nat) : Int) := by rw [IntWalk.i64_in _ (by omega)]; omega
      obtain ⟨x, hx⟩ : ∃ x, l[i]? = some x := ⟨_, List.getElem?_eq_getElem (by rw [hn.out]; exact hlt)⟩
      have hnl : ¬ strs l = [] := fun hnil => by
        have := congrArg List.length hnil
        rw [strs_length, hn.out] at this
        simp at this
        omega
      rcases h.out with ⟨hv, hnil⟩ | ⟨b, off, cap3, hv, _, _, hcell⟩
      · exact absurd hnil hnl
      rcases h2.out with ⟨hu, hnil⟩ | ⟨b2, off2, cap4, hu, _, _, hcell2⟩
      · exact absurd hnil hnl
      rw [strs_length, hn.out] at hv hu
      obtain ⟨rfl, rfl⟩ : ao = some ⟨b, off, none⟩ ∧ cap = cap3 := by cases hv; exact ⟨rfl, rfl⟩
      obtain ⟨rfl, rfl⟩ : ao2 = some ⟨b2, off2, none⟩ ∧ cap2 = cap4 := by cases hu; exact ⟨rfl, rfl⟩
      have cx : w.cell? ⟨b, off + i, none⟩ = some (.string x) := hcell i _ (strs_get? hx)
      have cy : w.cell? ⟨b2, off2 + i, none⟩ = some (.string x) := hcell2 i _ (strs_get? hx)
      clear hcell hcell2 hv hu hx hnl
      go_wp2
      go_quiet (fail)
      go_wp2
      go_roundg (n - (i + 1))
      case measure => rw [← hci.out]; omega
      case rel => exact ⟨i + 1, m + nq, ⟨rfl⟩, by omega, rfl, rfl⟩
    · obtain rfl : i = n := by omega
      have hlt' : ¬ (i : Int) < i := by omega
      go_wp2
      go_ret
      exact ⟨rfl, m, rfl⟩
/-! ### Acts -/
structure Act5 where
  kind : Int
  key : ByteArray
  n : Int
def actCells (a : Act5) : List Value := [.int .i64 a.kind, .string a.key, .int .i64 a.n]
/-- The slice v reads as a script; an empty one may lie anywhere. -/
def ScriptAt (w : World) (v : Value) (s : List Act5) : Prop :=
  (v = .slice none 0 0 ∧ s = []) ∨ ∃ a0 cap, v = .slice (some a0) s.length cap ∧ ∀ (i : Nat) (a : Act5), s[i]? = some a → a0.spot = none ∧ w.cell? ⟨a0.block, a0.off + i * 3, none⟩ = some (.int .i64 a.kind) ∧ w.cell? ⟨a0.block, a0.off + i * 3 + 1, none⟩ = some (.string a.key) ∧ w.cell? ⟨a0.block, a0.off + i * 3 + 2, none⟩ = some (.int .i64 a.n)
theorem ScriptAt.shape {w : World} {v : Value} {s : List Act5} (h : ScriptAt w v s) : ∃ ao cap, v = .slice ao s.length cap := by
  rcases h with ⟨rfl, rfl⟩ | ⟨a0, cap, rfl, _⟩
  · exact ⟨_, _, rfl⟩
  · exact ⟨_, _, rfl⟩
theorem ScriptAt.keep {w w' : World} {v : Value} {s : List Act5} (h : ScriptAt w v s) (k : Keep w w') : ScriptAt w' v s := by
  rcases h with h | ⟨a0, cap, h1, h2⟩
  · exact .inl h
  · exact .inr ⟨a0, cap, h1, fun i a ha => ⟨(h2 i a ha).1, k.cell (h2 i a ha).2.1, k.cell (h2 i a ha).2.2.1, k.cell (h2 i a ha).2.2.2⟩⟩
/-- An act of a script, in memory. -/
theorem ScriptAt.cells {w : World} {ao : Option Addr} {n cap : Nat} {s : List Act5} (h : ScriptAt w (.slice ao n cap) s) {i : Nat} {a : Act5} (ha : s[i]? = some a) :
    ∃ b off, ao = some ⟨b, off, none⟩ ∧ w.cell? ⟨b, off + i * 3, none⟩ = some (.int .i64 a.kind) ∧ w.cell? ⟨b, off + i * 3 + 1, none⟩ = some (.string a.key) ∧ w.cell? ⟨b, off + i * 3 + 2, none⟩ = some (.int .i64 a.n) := by
  rcases h with ⟨_, hnil⟩ | ⟨a0, cap2, hv, hcell⟩
  · rw [hnil] at ha; simp at ha
  · cases hv
    obtain ⟨h1, h2, h3, h4⟩ := hcell i a ha
    obtain ⟨b, off, sp⟩ := a0
    simp only at h1
    subst h1
    exact ⟨b, off, rfl, h2, h3, h4⟩
def few (s : List Act5) : Bool := decide (s.length ≤ 200) && s.all fun a => decide (a.key.size ≤ 200)
end Go.Proofs.YtbbdimlpofjlfaaGreatDoor
/- Lanes, keys and scripts, as arguments of a law. -/
namespace Go.Proofs.YtbbdimlpofjlfaaGreatDoor
open Go Go.RowKit

theorem addr_add (b off : Nat) (j : Nat) : (⟨b, off, none⟩ : Addr).add j = ⟨b, off + j, none⟩ := by unfold Addr.add; split <;> simp_all
theorem spot_none {W : World} {a : Addr} {v : Value} (h : W.cell? a = some v) : a.spot = none := by
  unfold World.cell? at h
  split at h
  · split at h
    · cases h
    · rename_i hs; simpa using hs
  · cases h
theorem row_of_cells {W : World} {a : Addr} {len cap : Nat} {α : Type} [Inhabited α] (f : α → Value) (Q : α → Prop) (hc : len ≤ cap) (hm : cap ≤ maxLen) (h : ∀ i, i < len → ∃ x, Q x ∧ W.cell? (a.add i) = some (f x)) :
    ∃ l : List α, RowR W (.slice (some a) len cap) (l.map f) ∧ ∀ x ∈ l, Q x := by
  cases len with
  | zero => exact ⟨[], .inr ⟨rfl, a, cap, rfl⟩, fun x hx => by cases hx⟩
  | succ m =>
    have hsp : a.spot = none := by
      obtain ⟨x, _, hx⟩ := h 0 (by omega)
      rw [show a.add 0 = a by unfold Addr.add; exact if_pos rfl] at hx
      exact spot_none hx
    obtain ⟨ab, ao, asp⟩ := a
    simp only at hsp
    subst hsp
    obtain ⟨g, hg⟩ : ∃ g : Nat → α, ∀ i, i < m + 1 → Q (g i) ∧ W.cell? ((⟨ab, ao, none⟩ : Addr).add i) = some (f (g i)) := by
      refine ⟨fun i => if hi : i < m + 1 then Classical.choose (h i hi) else default, fun i hi => ?_⟩
      dsimp only
      rw [dif_pos hi]
      exact Classical.choose_spec (h i hi)
    refine ⟨(List.range (m + 1)).map g, .inl (.inr ⟨ab, ao, cap, by simp, by simpa using hc, hm, fun j u hu => ?_⟩), fun x hx => ?_⟩
    · rw [List.map_map, List.getElem?_map, Option.map_eq_some_iff] at hu
      obtain ⟨k, hk, rfl⟩ := hu
      obtain ⟨hj, rfl⟩ := List.getElem?_eq_some_iff.1 hk
      rw [List.length_range] at hj
      rw [List.getElem_range]
      have := (hg j hj).2
      rw [addr_add] at this
      exact this
    · obtain ⟨k, hk, rfl⟩ := List.mem_map.1 hx
      exact (hg k (by simpa using hk)).1
theorem lane_of_arg {W : World} {v : Value} (h : Arg Tryz.prog W 22 v) : ∃ lane : List Nat, RowR W v (nums64 lane) ∧ ∀ x ∈ lane, x < 18446744073709551616 := by
  have e1 : Tryz.prog.cellsOf 67 = 1 := by kernel_rfl
  rcases arg_slice Tryz.underlying22 h with rfl | ⟨a, len, cap, n, rfl, h1, h2, h3⟩
  · exact ⟨[], .inl (.inl ⟨rfl, rfl⟩), fun x hx => by cases hx⟩
  · rw [e1] at h3
    exact row_of_cells (fun n : Nat => Value.int .u64 (n : Nat)) (fun x => x < 18446744073709551616) h1 h2 fun i hi => by
      obtain ⟨cs, hc, hs⟩ := h3 i hi
      obtain ⟨x, rfl, hw⟩ := shp_int Tryz.underlying67 hs
      obtain ⟨_, _, hat⟩ := World.cells?_some hc
      have h0 := hat 0 (by decide)
      rw [Nat.mul_one] at h0
      have hb := u64_bounds hw
      refine ⟨x.toNat, by omega, ?_⟩
      have e : ((x.toNat : Nat) : Int) = x := by omega
      rw [e]
      simpa [show (a.add i).add 0 = a.add i by unfold Addr.add; exact if_pos rfl] using h0
theorem keys_of_arg {W : World} {v : Value} (h : Arg Tryz.prog W 23 v) : ∃ keys : List ByteArray, RowR W v (strs keys) := by
  have e1 : Tryz.prog.cellsOf 9 = 1 := by kernel_rfl
  rcases arg_slice Tryz.underlying23 h with rfl | ⟨a, len, cap, n, rfl, h1, h2, h3⟩
  · exact ⟨[], .inl (.inl ⟨rfl, rfl⟩)⟩
  · rw [e1] at h3
    obtain ⟨l, hl, _⟩ := row_of_cells (W := W) (a := a) (Value.string) (fun _ => True) h1 h2 fun i hi => by
      obtain ⟨cs, hc, hs⟩ := h3 i hi
      obtain ⟨x, rfl, _⟩ := shp_string Tryz.underlying9 hs
      obtain ⟨_, _, hat⟩ := World.cells?_some hc
      have h0 := hat 0 (by decide)
      rw [Nat.mul_one] at h0
      exact ⟨x, trivial, by simpa [show (a.add i).add 0 = a.add i by unfold Addr.add; exact if_pos rfl] using h0⟩
    exact ⟨l, hl⟩
end Go.Proofs.YtbbdimlpofjlfaaGreatDoor
/- Tools of the laws, beyond those of learners. -/
namespace Go.Proofs.YtbbdimlpofjlfaaGreatDoor
open Go Go.RowKit

theorem Holds.strsAt {g w : World} {v : Value} {l : List ByteArray} {F : List SProp} (h : Holds g w (OwnStrs v l :: F)) : RowAt w v (strs l) := by
  unfold OwnStrs at h
  exact h.rowAt
theorem RowAt.strCell {w : World} {ao : Option Addr} {n cap : Nat} {l : List ByteArray} (h : RowAt w (.slice ao n cap) (strs l)) {i : Nat} {x : ByteArray} (hx : l[i]? = some x) : ∃ b off, ao = some ⟨b, off, none⟩ ∧ w.cell? ⟨b, off + i, none⟩ = some (.string x) := by
  rcases h with ⟨_, hnil⟩ | ⟨b, off, cap2, hv, _, _, hcell⟩
  · have : l = [] := List.length_eq_zero_iff.1 (by have := congrArg List.length hnil; rwa [strs_length] at this)
    rw [this] at hx
    simp at hx
  · cases hv
    exact ⟨b, off, rfl, hcell i _ (strs_get? hx)⟩
theorem RowR.strCell {w : World} {ao : Option Addr} {n cap : Nat} {l : List ByteArray} (h : RowR w (.slice ao n cap) (strs l)) {i : Nat} {x : ByteArray} (hx : l[i]? = some x) : ∃ b off, ao = some ⟨b, off, none⟩ ∧ w.cell? ⟨b, off + i, none⟩ = some (.string x) := by
  rcases h with h | ⟨hnil, _⟩
  · exact h.strCell hx
  · have : l = [] := List.length_eq_zero_iff.1 (by have := congrArg List.length hnil; rwa [strs_length] at this)
    rw [this] at hx
    simp at hx
/-- A tape of one lane. -/
theorem Draw_One {g w : World} {F : List SProp} (v : Value) (l : List Nat) (hl : l.length ≤ 100000) (hv : ∀ wx, Holds g wx F → RowR wx v (nums64 l)) (h : Holds g w F) :
    Calls Tryz.prog 13 #[.slice (some ⟨w.heap.size, 0, none⟩) 1 1] (w.alloc (.cells #[v] 22)) fun r w' => ∃ b, r = .returned (.pointer (some ⟨b, 0, none⟩)) ∧ Holds g w' (IsTape b [l] :: F) := by
  have HA := (h.alloc (o := .cells #[v] 22)).one
  refine (Draw_New (us := [v]) (ls := [l]) HA rfl (by simp) (by simpa using hl) (fun wx hx i u l' hu hl' => by
    cases i with
    | zero =>
      obtain rfl : v = u := by simpa using hu
      obtain rfl : l = l' := by simpa using hl'
      exact hv wx hx.drop
    | succ i => simp at hu)).mono ?_
  rintro r w' ⟨b, hr, h1⟩
  exact ⟨b, hr, h1.p1.drop⟩
theorem In_NewK {g w : World} {F : List SProp} {tb : Nat} (kind : Nat) (hk : kind < 7) (m : Nat) (hm : m ≤ 16777216) (h : Holds g w F) :
    Calls Tryz.prog 12 #[.int .i64 (kind : Nat), .int .i64 (m : Nat), .pointer (some ⟨tb, 0, none⟩), .int .i64 0] w fun r w' => ∃ b, r = .returned (.tuple #[.pointer (some ⟨b, 0, none⟩), .nilIface]) ∧ Holds g w' (IsIn b tb ⟨Ca.new kind m 0, 0, 0⟩ :: F) := In_New kind hk m hm 0 h
/-! ### What a request does -/
inductive Asked (R R' : List ByteArray) (m : Nat) (k : ByteArray) : Stp → Prop
  | hit (hk : k ∈ R) (res : ∀ c, c ∈ R' ↔ c ∈ R) : Asked R R' m k ⟨true, bNil, false⟩
  | less (hk : k ∉ R) (hl : R.length < m) (res : ∀ c, c ∈ R' ↔ c = k ∨ c ∈ R) : Asked R R' m k ⟨false, bNil, false⟩
  | full (v : ByteArray) (hk : k ∉ R) (h0 : m ≠ 0) (hl : R.length = m) (hv : v ∈ R) (res : ∀ c, c ∈ R' ↔ c = k ∨ (c ∈ R ∧ c ≠ v)) : Asked R R' m k ⟨false, v, true⟩
  | zero (hm : m = 0) (hk : k ∉ R) (hr : R = []) (res : R' = []) : Asked R R' m k ⟨false, bNil, false⟩
theorem Ca.asked {c : Ca} (h : c.Inv) (t : Tape) (k : ByteArray) : (c.req t k).1.Inv ∧ Asked c.res (c.req t k).1.res c.most k (c.req t k).2.2 := by
  by_cases hk : k ∈ c.res
  · obtain ⟨h1, h2, h3⟩ := Ca.hit h t k hk
    rw [h3]
    exact ⟨h1, .hit hk h2⟩
  · by_cases hm : c.most = 0
    · obtain ⟨h1, h2, h3, h4⟩ := Ca.zero h t k hm
      rw [h4]
      exact ⟨h1, .zero hm hk h3 h2⟩
    · obtain ⟨h1, h2⟩ := Ca.miss h t k hk hm
      refine ⟨h1, ?_⟩
      have hle := h.le
      obtain ⟨st, hst⟩ : ∃ st, (c.req t k).2.2 = st := ⟨_, rfl⟩
      rw [hst] at h2 ⊢
      cases h2 with
      | less hl hr => exact .less hk hl hr
      | full v hl hv hr => exact .full v hk hm (by omega) hv hr
/-- An instance of m, after i requests at most. -/
structure IGood (m i : Nat) (x : In) (t : Tape) : Prop where
  inv : x.c.Inv
  fit : x.c.Fit (4 * i)
  tape : tOk t
  most : x.c.most = m
  n : 0 ≤ x.n ∧ x.n ≤ i
  h : 0 ≤ x.h ∧ x.h ≤ i
theorem IGood.new (kind m lane : Nat) (hk : kind < 7) (hm : m ≤ 16777216) (t : Tape) (ht : tOk t) : IGood m 0 ⟨Ca.new kind m lane, 0, 0⟩ t := by
  obtain ⟨h1, _, h3, _, _⟩ := Ca.new_is kind m lane hk
  exact ⟨h1, Ca.new_fit kind m lane hk hm, ht, h3, by dsimp only; omega, by dsimp only; omega⟩
theorem IGood.req {m i : Nat} {x : In} {t : Tape} (h : IGood m i x t) (k : ByteArray) : IGood m (i + 1) (x.req t k).1 (x.req t k).2.1 := by
  obtain ⟨a1, _⟩ := Ca.asked h.inv t k
  obtain ⟨f1, f2⟩ := Ca.req_fit h.fit h.tape k
  have hn := h.n
  have hh := h.h
  refine ⟨a1, by rw [show 4 * (i + 1) = 4 * i + 4 by omega]; exact f1, f2, (Ca.req_keep x.c t k).1.trans h.most, ?_, ?_⟩
  · unfold In.req; dsimp only; omega
  · unfold In.req; dsimp only; split <;> omega
theorem IGood.mono {m i j : Nat} {x : In} {t : Tape} (h : IGood m i x t) (hij : i ≤ j) : IGood m j x t :=
  ⟨h.inv, h.fit.mono (by omega), h.tape, h.most, by have := h.n; omega, by have := h.h; omega⟩
theorem In_Ask {g w : World} {F : List SProp} {b tb m i : Nat} {x y : In} {t u : Tape} {hit out : Bool} {v k : ByteArray} (hI : IGood m i x t) (hi : i < 20000) (hr : x.req t k = (y, u, ⟨hit, v, out⟩)) (h : Holds g w (IsIn b tb x :: IsTape tb t :: F)) :
    Calls Tryz.prog 15 #[.pointer (some ⟨b, 0, none⟩), .string k] w fun r w' => r = .returned (.agg #[.bool hit, .string v, .bool out]) ∧ Holds g w' (IsIn b tb y :: IsTape tb u :: F) := by
  have hn := hI.n
  have hh := hI.h
  have c := In_Request h k (4 * i) hI.fit (by omega) hI.tape (by omega)
  rw [hr] at c
  exact c
theorem In_KeysI {g w : World} {F : List SProp} {b tb m i : Nat} {x : In} {t : Tape} (hI : IGood m i x t) (hi : i < 20000) (h : Holds g w (IsIn b tb x :: F)) :
    Calls Tryz.prog 14 #[.pointer (some ⟨b, 0, none⟩)] w fun r w' => ∃ ao cap, r = .returned (.slice ao x.c.res.length cap) ∧ Holds g w' (OwnStrs (.slice ao x.c.res.length cap) x.c.keys :: IsIn b tb x :: F) := by
  refine (In_Keys h (4 * i) hI.fit (by omega)).mono ?_
  rintro r w' ⟨v, rfl, h1⟩
  obtain ⟨ao, cap, hv⟩ := (Holds.strsAt h1).shape
  rw [strs_length, (Ca.keys_res x.c).2] at hv
  subst hv
  exact ⟨ao, cap, rfl, h1⟩
theorem In_HasR {g w : World} {F : List SProp} {b tb : Nat} {x : In} (hi : x.c.Inv) (k : ByteArray) (d : Bool) (hd : decide (k ∈ x.c.res) = d) (h : Holds g w (IsIn b tb x :: F)) :
    Calls Tryz.prog 18 #[.pointer (some ⟨b, 0, none⟩), .string k] w fun r w' => r = .returned (.bool d) ∧ Keep w w' := In_Has h k d (by rw [Ca.has_res hi]; exact hd)
theorem In_LenR {g w : World} {F : List SProp} {b tb : Nat} {x : In} (n : Nat) (hn : x.c.res.length = n) (hl : n < 1000000) (h : Holds g w (IsIn b tb x :: F)) :
    Calls Tryz.prog 19 #[.pointer (some ⟨b, 0, none⟩)] w fun r w' => r = .returned (.int .i64 n) ∧ Keep w w' := In_Len h n (by rw [Ca.len_res]; exact hn) (by rw [Ca.len_res, hn]; exact hl)
theorem Ref_HasK {w : World} {v : Value} {c : Ca} (h : RowAt w v (strs c.keys)) (hl : c.res.length ≤ 10000000) (key : ByteArray) (d : Bool) (hd : decide (key ∈ c.res) = d) :
    Calls Tryz.prog 17 #[v, .string key] w fun r w' => r = .returned (.bool d) ∧ w = w' :=
  Ref3_Has h (by rw [(Ca.keys_res c).2]; exact hl) key d (by rw [← hd]; exact decide_eq_decide.2 ((Ca.keys_res c).1 key))
theorem IGood.remove {m i : Nat} {x : In} {t : Tape} (h : IGood m i x t) (k : ByteArray) : IGood m i ⟨x.c.remove k, x.n, x.h⟩ t := by
  obtain ⟨r1, _, _, r4, _⟩ := Ca.remove_res h.inv k
  exact ⟨r1, Ca.remove_fit h.fit k, h.tape, r4.trans h.most, h.n, h.h⟩
theorem IGood.drop {m i : Nat} {x : In} {t : Tape} (h : IGood m i x t) : IGood m i ⟨x.c.drop, x.n, x.h⟩ t := by
  obtain ⟨r1, r2, _⟩ := Ca.drop_res h.inv
  exact ⟨r1, Ca.drop_fit h.fit, h.tape, r2.trans h.most, h.n, h.h⟩
theorem IGood.adopt {m i : Nat} {x : In} {t : Tape} (h : IGood m i x t) (k : ByteArray) : IGood m (i + 1) ⟨(x.c.adopt k).1, x.n, x.h⟩ t := by
  refine ⟨?_, (Ca.adopt_fit h.fit k).mono (by omega), h.tape, (Ca.adopt_keep x.c k).1.trans h.most, by have := h.n; dsimp only; omega, by have := h.h; dsimp only; omega⟩
  by_cases hk : k ∈ x.c.res ∨ x.c.most ≤ x.c.res.length
  · rw [Ca.adopt_no h.inv k hk]; exact h.inv
  · exact (Ca.adopt_yes h.inv k (fun h => hk (.inl h)) (Nat.lt_of_not_le fun h => hk (.inr h))).1
theorem IGood.resize {m i : Nat} {x : In} {t : Tape} (h : IGood m i x t) {m' : Nat} (hm : m' ≤ 16777216) : IGood m' i ⟨(x.c.resize m').1, x.n, x.h⟩ t := by
  obtain ⟨r1, r2, _⟩ := Ca.resize_res h.inv m'
  exact ⟨r1, Ca.resize_fit h.fit hm, h.tape, r2, h.n, h.h⟩
/-- A request of which nothing is asked. -/
theorem In_AskAny {g w : World} {F : List SProp} {b tb m i : Nat} {x : In} {t : Tape} {k : ByteArray} (hI : IGood m i x t) (hi : i < 20000) (h : Holds g w (IsIn b tb x :: IsTape tb t :: F)) :
    Calls Tryz.prog 15 #[.pointer (some ⟨b, 0, none⟩), .string k] w fun r w' => r = .returned (stepV (x.req t k).2.2) ∧ Holds g w' (IsIn b tb (x.req t k).1 :: IsTape tb (x.req t k).2.1 :: F) := by
  have hn := hI.n
  have hh := hI.h
  exact In_Request h k (4 * i) hI.fit (by omega) hI.tape (by omega)
theorem In_RemoveR {g w : World} {F : List SProp} {b tb : Nat} {x : In} (hi : x.c.Inv) (k : ByteArray) (d : Bool) (hd : decide (k ∈ x.c.res) = d) (h : Holds g w (IsIn b tb x :: F)) :
    Calls Tryz.prog 23 #[.pointer (some ⟨b, 0, none⟩), .string k] w fun r w' => r = .returned (.bool d) ∧ Holds g w' (IsIn b tb ⟨x.c.remove k, x.n, x.h⟩ :: F) := In_Remove h k d (by rw [Ca.has_res hi]; exact hd)
theorem In_GhostsI {g w : World} {F : List SProp} {b tb m i : Nat} {x : In} {t : Tape} (hI : IGood m i x t) (hi : i < 20000) (h : Holds g w (IsIn b tb x :: F)) :
    Calls Tryz.prog 21 #[.pointer (some ⟨b, 0, none⟩)] w fun r w' => ∃ ao cap, r = .returned (.slice ao x.c.ghosts.length cap) ∧ Holds g w' (OwnStrs (.slice ao x.c.ghosts.length cap) x.c.ghosts :: IsIn b tb x :: F) := by
  refine (In_Ghosts h (4 * i) hI.fit (by omega)).mono ?_
  rintro r w' ⟨v, rfl, h1⟩
  obtain ⟨ao, cap, hv⟩ := (Holds.strsAt h1).shape
  rw [strs_length] at hv
  subst hv
  exact ⟨ao, cap, rfl, h1⟩
theorem Ca.Fit.ghosts {i : Nat} {c : Ca} (h : c.Fit i) : c.ghosts.length ≤ 2 * i := by
  cases c with
  | pol n p =>
    cases p with
    | lru s => exact Nat.zero_le _
    | lfu s => exact Nat.zero_le _
    | sr s => have := Sr.Fit.size h.1; unfold Sr.size at this; show s.g.length ≤ _; omega
  | arc s => have := h.1; unfold Arc.size at this; show (s.b1 ++ s.b2).length ≤ _; rw [List.length_append]; omega
  | ln s =>
    have h1 := Ln.Fit.ga (s := { s with tape := [] }) h.1
    have h2 := Ln.Fit.gb (s := { s with tape := [] }) h.1
    show (s.GA ++ s.GB).length ≤ _
    rw [List.length_append]
    dsimp only at h1 h2
    omega
end Go.Proofs.YtbbdimlpofjlfaaGreatDoor
