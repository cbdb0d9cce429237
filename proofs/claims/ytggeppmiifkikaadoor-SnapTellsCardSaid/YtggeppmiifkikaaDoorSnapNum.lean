/- snap.number: a number's bytes. -/
import Derived.Test.YtggeppmiifkikaaDoorSnapRight2
import Derived.Test.YtggeppmiifkikaaDoorConv
import Derived.Test.YtggeppmiifkikaaDoorStep
import Derived.Outline
namespace Go.Proofs.YtggeppmiifkikaaDoor
open Go Go.RowKit

/-- A number's last so many bytes, the highest first. -/
def beN (v : Nat) : Nat → List Nat
  | 0 => []
  | i + 1 => v / 256 ^ i % 256 :: beN v i
theorem beN_length (v : Nat) : ∀ i, (beN v i).length = i
  | 0 => rfl
  | i + 1 => by rw [beN, List.length_cons, beN_length v i]
def byv (l : List Nat) : List Value := l.map fun b => .int .u8 (b : Nat)
def strN (l : List Nat) : ByteArray := strOfNums (l.map fun b : Nat => (b : Int))
theorem byv_conv (l : List Nat) : byv l = (l.map fun b : Nat => (b : Int)).map (Value.int .u8) := by simp [byv]
theorem byv_length (l : List Nat) : (byv l).length = l.length := by simp [byv]
theorem infoU8 : (Tryd.prog.info? 5).map (fun i => (i.zero, i.size, i.bytes)) = some (some (.int .u8 0), 1, 1) := by kernel_rfl
theorem byv_rep (n : Nat) : byv (List.replicate n 0) = List.replicate n (.int .u8 0) := by simp [byv]
theorem byv_set (j : Nat) (H : List Nat) (x : Nat) : (byv (List.replicate (j + 1) 0 ++ H)).set j (.int .u8 (x : Nat)) = byv (List.replicate j 0 ++ x :: H) := by
  rw [List.replicate_succ', List.append_assoc]
  unfold byv
  rw [List.map_append, List.map_append, List.set_append_right _ _ (by simp)]
  simp
set_option maxRecDepth 100000 in
theorem Snap_number (v n : Nat) (hv : v < 18446744073709551616) (hn : n ≤ 8) (w : World) :
    Calls Tryd.prog 27 #[.int .u64 v, .int .i64 n] w fun r w' => r = .returned (.string (strN (beN v n))) ∧ Keep w w' := by
  obtain ⟨i, hi, hz0, hz1, hz2⟩ := info_parts infoU8
  have hi := hide hi
  have hz0 := hide hz0
  have hz1 := hide hz1
  have hz2 := hide hz2
  go_enter Tryd.func27, Tryd.ntmps27
  go_wp2_with (at_make; refine wpList_make_full _ rfl _ _ 50 rfl w.heap.size 5 i (.int .u8 0) 1 Tryd.underlying50 hi.out hz0.out hz1.out .i64 .i64 _ _ n rfl rfl rfl rfl (by rw [hz2.out]; omega) (by simp only [maxLen]; omega) (Nat.le_refl _) ?_; intro w1 o1 g1; have H1 := hide (((Holds.start w).ownNil 5 1).grown o1 g1 (.inr ⟨_, rfl, Nat.le_refl _⟩)); clear o1 g1)
  go_loopw [11] (fun a wr => ∃ k : Nat, a = .int .i64 k ∧ k ≤ n ∧ Holds w wr [OwnRow 5 1 (.slice (some ⟨w.heap.size, 0, none⟩) n n) n (byv (List.replicate (n - k) 0 ++ beN v k))]) (fun a _ => (n - intOf a).toNat)
  case atStart => exact ⟨0, rfl, Nat.zero_le _, by rw [Nat.sub_zero, beN, List.append_nil, byv_rep]; have := H1.out; rwa [Nat.mul_one, show (Value.int .u8 0).cells = #[.int .u8 0] from rfl, toList_madeCells_one] at this⟩
  case round =>
    obtain ⟨k, rfl, hk, hh⟩ := hrel
    have H := hide hh
    clear hh
    by_cases hkn : k < n
    · have hkn' : (k : Int) < n := by omega
      obtain ⟨j, hj⟩ : ∃ j, n - k = j + 1 := ⟨n - k - 1, by omega⟩
      have hj' : n - (k + 1) = j := by omega
      have f1 : (n : Int) - 1 - k = (j : Int) := by omega
      have f2 : IntKind.i64.wrap ((n : Int) - 1) = (n : Int) - 1 := IntWalk.i64_in _ (by omega)
      have f3 : IntKind.i64.wrap ((n : Int) - 1 - k) = (j : Int) := by rw [f1]; exact IntWalk.i64_in _ (by omega)
      have f4 : IntKind.i64.wrap (8 * (k : Int)) = 8 * (k : Int) := IntWalk.i64_in _ (by omega)
      have f5 : IntKind.i64.wrap ((k : Int) + 1) = ((k + 1 : Nat) : Int) := by rw [show (k : Int) + 1 = ((k + 1 : Nat) : Int) by omega]; exact IntWalk.i64_in _ (by omega)
      have hjn : (j : Int) < n := by omega
      have hgc : (byv (List.replicate (n - k) 0 ++ beN v k))[j]? = some (.int .u8 0) := by
        rw [hj, List.replicate_succ', List.append_assoc]
        unfold byv
        rw [List.map_append, List.getElem?_append_right (by simp)]
        simp
      have hq := H.out.ownsRow.cellAt j (by omega)
      rw [hgc] at hq
      have hf := H.out.ownsRow.frozenAt j
      clear hgc
      have e1 : (v : Int) / 2 ^ (8 * k) % 256 = ((v / 256 ^ k % 256 : Nat) : Int) := by
        rw [show (2 : Int) ^ (8 * k) = ((256 ^ k : Nat) : Int) by rw [show (256 : Nat) ^ k = 2 ^ (8 * k) from (Nat.pow_mul 2 8 k).symm]; simp]
        rfl
      have hst := H.out.ownsRow.stored j (.int .u8 ((v / 256 ^ k % 256 : Nat) : Int))
      rw [hj, byv_set] at hst
      have HS := H.out
      rw [hj] at HS
      have HS := hide (HS.grown hst.1 hst.2 (.inl rfl))
      have E1 := hide e1
      clear hst hj f1 e1
      go_wp2
      go_roundw
      case rel => exact ⟨k + 1, by go_num, hkn, by rw [E1.out, hj', beN]; exact HS.out⟩
      case measure => (simp [intOf] <;> omega)
    · obtain rfl : k = n := by omega
      have hcv := RowAt.convert (P := Tryd.prog) (xs := (beN v k).map fun b : Nat => (b : Int)) (by rw [← byv_conv]; have := H.out.rowAt; rwa [Nat.sub_self, List.replicate_zero, List.nil_append] at this) Tryd.underlying50 Tryd.underlying5 Tryd.underlying9
      go_wp2
      go_ret
      exact ⟨rfl, H.out.toKeep⟩
end Go.Proofs.YtggeppmiifkikaaDoor
