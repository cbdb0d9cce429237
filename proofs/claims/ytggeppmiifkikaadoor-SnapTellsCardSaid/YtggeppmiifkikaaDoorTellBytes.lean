/- The document's bytes of a number. -/
import Derived.Test.YtggeppmiifkikaaDoorTellRef
import Derived.Test.YtggeppmiifkikaaDoorSnapPrint
namespace Go.Proofs.YtggeppmiifkikaaDoor
open Go Go.RowKit

theorem one_text {P : Program} {w : World} {src e dst : TypeId} (hs : P.underlying src = some (.slice e)) (he : P.underlying e = some (.int .u8)) (hd : P.underlying dst = some .string) (b d : Nat)
    (h : w.cell? ⟨b, 0, none⟩ = some (.int .u8 d)) : (convert src dst (.slice (some ⟨b, 0, none⟩) 1 1)).run P w = .ok (.string ⟨#[UInt8.ofNat d]⟩) w := by
  have := run_convert_bytes_arg (P := P) w src e hs he b 0 1 1 [(d : Int)] rfl (fun i hi => by
    obtain rfl : i = 0 := by omega
    rw [Nat.zero_add, h]
    rfl) dst hd
  rw [this]
  simp [strOfNums]
set_option maxRecDepth 100000 in
theorem Ref_bytes (v n : Nat) (hv : v < 18446744073709551616) (hn : n ≤ 8) (w : World) :
    Calls Tryd.prog 31 #[.int .u64 v, .int .i64 n] w fun r w' => r = .returned (.string ⟨(beB v n).toArray⟩) ∧ Keep w w' := by
  go_enter Tryd.func31, Tryd.ntmps31
  go_wp2
  go_loopw [0, 5, 6] (fun x s i wr => ∃ (k y : Nat) (z : ByteArray), x = .int .u64 y ∧ s = .string z ∧ i = .int .i64 k ∧ k ≤ n ∧ y < 18446744073709551616 ∧ z.size = k ∧ Hide (y = v / 256 ^ k) ∧ Hide (z = ⟨(beB v k).toArray⟩) ∧ Keep w wr) (fun _ _ i _ => (n - intOf i).toNat)
  case atStart => exact ⟨0, v, _, rfl, rfl, rfl, Nat.zero_le _, hv, rfl, ⟨by rw [Nat.pow_zero, Nat.div_one]⟩, ⟨rfl⟩, Keep.refl w⟩
  case round =>
    obtain ⟨k, y, z, rfl, rfl, rfl, hk, hy, hz, hY, hZ, hK⟩ := hrel
    have hK := hide hK
    by_cases hlt : k < n
    · have hlt' : (k : Int) < n := by omega
      obtain ⟨d, hd⟩ : ∃ d, y % 256 = d := ⟨_, rfl⟩
      obtain ⟨y2, hy2⟩ : ∃ y2, y / 256 = y2 := ⟨_, rfl⟩
      have hd8 : d < 256 := by omega
      have hy2l : y2 < 18446744073709551616 := by omega
      have g1 : (y : Int) % 256 = (d : Int) := by omega
      have g2 : IntKind.u8.wrap (d : Int) = (d : Int) := by rw [show ∀ n : Int, IntKind.u8.wrap n = n % 256 from fun n => by simp [IntKind.wrap, IntKind.bits, IntKind.signed]]; omega
      have g3 : (y : Int) / 256 = (y2 : Int) := by omega
      have hcv := fun (w : World) b h => one_text (P := Tryd.prog) (w := w) Tryd.underlying50 Tryd.underlying5 Tryd.underlying9 b d h
      have hc0 : (wr.alloc (.cells #[.int .u8 d] 5)).cell? ⟨wr.heap.size, 0, none⟩ = some (.int .u8 d) := World.cell?_alloc_new _ _ _ _
      have hcv := hcv _ _ hc0
      have g4 : ¬ 9223372036854775807 < (⟨#[UInt8.ofNat d]⟩ : ByteArray).size + z.size := by rw [hz, show (⟨#[UInt8.ofNat d]⟩ : ByteArray).size = 1 from rfl]; omega
      have hN : Hide ((⟨#[UInt8.ofNat d]⟩ : ByteArray) ++ z = ⟨(beB v (k + 1)).toArray⟩) := ⟨by
        rw [hZ.out]
        apply ByteArray.ext
        rw [ByteArray.data_append]
        unfold beB
        rw [beN, List.map_cons]
        have : v / 256 ^ k % 256 = d := by rw [← hd, hY.out]
        rw [this]
        simp⟩
      have hY2 : Hide (y2 = v / 256 ^ (k + 1)) := ⟨by rw [← hy2, hY.out, Nat.pow_succ, Nat.div_div_eq_div_mul]⟩
      clear hc0 hd hy2 hY hZ
      go_wp2
      go_roundw
      case rel => exact ⟨k + 1, y2, _, rfl, rfl, by go_num, hlt, hy2l, by rw [ByteArray.size_append, hz]; exact Nat.add_comm _ _, hY2, hN, hK.out.trans (Keep.refl _).alloc⟩
      case measure => (simp [intOf] <;> omega)
    · obtain rfl : n = k := by omega
      go_wp2
      go_ret
      exact ⟨congrArg (fun z => Ending.returned (.string z)) hZ.out, hK.out⟩
end Go.Proofs.YtggeppmiifkikaaDoor
