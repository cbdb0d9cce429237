/- draw.Hash. -/
import Derived.Test.YtggeppmiifkikaaDoorSnapNum
import Derived.Lib.ConvBytes
namespace Go.Proofs.YtggeppmiifkikaaDoor
open Go Go.RowKit

theorem keepBytes (w : World) (e : TypeId) (s : ByteArray) : Keep w (Lib.bytesWorld w e s) := ⟨rfl, rfl, rfl, by rw [Lib.bytesWorld_size]; omega, fun i o h => by
  have hl : i < w.heap.size := by
    rcases Nat.lt_or_ge i w.heap.size with h' | h'
    · exact h'
    · simp [Array.getElem?_eq_none h'] at h
  rw [Lib.bytesWorld_at_old w e s i hl]; exact h⟩
def hstep (h c : Nat) : Nat := 1099511628211 * (h ^^^ c) % 18446744073709551616
def hfold (l : List UInt8) : Nat := l.foldl (fun h c => hstep h c.toNat) 14695981039346656037
theorem hfold_snoc (l : List UInt8) (c : UInt8) : hfold (l ++ [c]) = hstep (hfold l) c.toNat := by simp only [hfold, List.foldl_append, List.foldl_cons, List.foldl_nil]
def hmix (h : Nat) : Nat := h ^^^ (h / 8589934592)
def hashN (l : List UInt8) : Nat := hmix (18397679294719823053 * hmix (hfold l) % 18446744073709551616)
set_option maxRecDepth 100000 in
theorem Draw_Hash (s : ByteArray) (hs : s.size ≤ 100000) (w : World) :
    Calls Tryd.prog 29 #[.string s] w fun r w' => r = .returned (.int .u64 (hashN s.data.toList : Nat)) ∧ Keep w w' := by
  have hcv := Lib.run_convert_string_bytes (P := Tryd.prog) w 9 50 5 s Tryd.underlying9 Tryd.underlying50 Tryd.underlying5
  have hk := hide (keepBytes w 5 s)
  have hc := hide (fun j hj => Lib.bytesWorld_cell w 5 s j hj)
  obtain ⟨wb, hwb⟩ : ∃ wb, Lib.bytesWorld w 5 s = wb := ⟨_, rfl⟩
  obtain ⟨cap, hcap⟩ : ∃ cap, grownCap w s.size 0 5 = cap := ⟨_, rfl⟩
  rw [hwb, hcap] at hcv
  rw [hwb] at hk hc
  clear hwb hcap
  go_enter Tryd.func29, Tryd.ntmps29
  go_wp2
  go_loop [3, 9] (fun h i => ∃ (k x : Nat), h = .int .u64 x ∧ i = .int .i64 k ∧ k ≤ s.size ∧ x < 18446744073709551616 ∧ x = hfold (s.data.toList.take k)) (fun _ i => (s.size - intOf i).toNat)
  case atStart => exact ⟨0, 14695981039346656037, rfl, rfl, Nat.zero_le _, by omega, rfl⟩
  case round =>
    obtain ⟨k, x, rfl, rfl, hks, hx, hxv⟩ := hrel
    have hX := hide hxv
    clear hxv
    by_cases hlt : k < s.size
    · have hlt' : (k : Int) < s.size := by omega
      have hc0 := hc.out k hlt
      obtain ⟨c, hcc⟩ : ∃ c : UInt8, s.data.toList.getD k 0 = c := ⟨_, rfl⟩
      rw [hcc] at hc0
      have hcl : c.toNat < 256 := UInt8.toNat_lt c
      obtain ⟨d, hd⟩ : ∃ d, c.toNat = d := ⟨_, rfl⟩
      rw [hd] at hc0 hcl
      have hst : hfold (s.data.toList.take (k + 1)) = hstep x d := by
        rw [List.take_add_one, List.getElem?_eq_getElem (by simpa using hlt)]
        have hg : s.data.toList[k]'(by simpa using hlt) = c := by rw [← hcc]; simp [List.getD, List.getElem?_eq_getElem (show k < s.data.toList.length by simpa using hlt)]
        rw [hg]
        exact (hfold_snoc _ _).trans (by rw [← hX.out, hd])
      have f0 : IntKind.u64.wrap (d : Int) = (d : Int) := by rw [IntKind.wrap_u64]; omega
      have f1 : bits .xor .u64 (x : Int) (d : Int) = ((x ^^^ d : Nat) : Int) := bits_xor_u64_nat x d hx (by omega)
      obtain ⟨y, hy⟩ : ∃ y, x ^^^ d = y := ⟨_, rfl⟩
      have hst2 : hstep x d = 1099511628211 * y % 18446744073709551616 := by unfold hstep; rw [hy]
      rw [hy] at f1
      obtain ⟨z, hz⟩ : ∃ z, 1099511628211 * y % 18446744073709551616 = z := ⟨_, rfl⟩
      have f2 : IntKind.u64.wrap ((y : Int) * 1099511628211) = (z : Int) := by rw [IntKind.wrap_u64]; omega
      have hzl : z < 18446744073709551616 := by omega
      have f3 : IntKind.i64.wrap ((k : Int) + 1) = ((k + 1 : Nat) : Int) := by rw [show (k : Int) + 1 = ((k + 1 : Nat) : Int) by omega]; exact IntWalk.i64_in _ (by omega)
      have HZ := hide (show z = hfold (s.data.toList.take (k + 1)) by rw [hst, hst2, hz])
      clear hst hst2 hz hy hd hcc
      go_wp2
      go_round
      case rel => exact ⟨k + 1, z, rfl, by go_num, hlt, hzl, HZ.out⟩
      case measure => (simp [intOf] <;> omega)
    · obtain rfl : k = s.size := by omega
      have e0 : x = hfold s.data.toList := by rw [hX.out]; congr 1; exact List.take_of_length_le (Nat.le_of_eq Array.length_toList)
      have f1 : (x : Int) / 8589934592 = ((x / 8589934592 : Nat) : Int) := by omega
      have f2 : bits .xor .u64 (x : Int) ((x / 8589934592 : Nat) : Int) = ((x ^^^ (x / 8589934592) : Nat) : Int) := bits_xor_u64_nat _ _ hx (by omega)
      obtain ⟨q, hq⟩ : ∃ q, x / 8589934592 = q := ⟨_, rfl⟩
      obtain ⟨y, hy⟩ : ∃ y, x ^^^ q = y := ⟨_, rfl⟩
      rw [hq] at f1 f2
      rw [hy] at f2
      obtain ⟨z, hz⟩ : ∃ z, 18397679294719823053 * y % 18446744073709551616 = z := ⟨_, rfl⟩
      have hzl : z < 18446744073709551616 := by omega
      have f3 : IntKind.u64.wrap ((y : Int) * 18397679294719823053) = (z : Int) := by rw [IntKind.wrap_u64]; omega
      have f4 : (z : Int) / 8589934592 = ((z / 8589934592 : Nat) : Int) := by omega
      have f5 : bits .xor .u64 (z : Int) ((z / 8589934592 : Nat) : Int) = ((z ^^^ (z / 8589934592) : Nat) : Int) := bits_xor_u64_nat _ _ hzl (by omega)
      obtain ⟨q2, hq2⟩ : ∃ q2, z / 8589934592 = q2 := ⟨_, rfl⟩
      obtain ⟨t, ht⟩ : ∃ t, z ^^^ q2 = t := ⟨_, rfl⟩
      have hT : hashN s.data.toList = t := by rw [hashN, ← e0, hmix, hmix, hq, hy, hz, hq2, ht]
      rw [hq2] at f4 f5
      rw [ht] at f5
      have hT := hide hT
      clear hq hy hz hq2 ht e0
      go_wp2
      go_ret
      exact ⟨rfl, hk.out⟩
end Go.Proofs.YtggeppmiifkikaaDoor
