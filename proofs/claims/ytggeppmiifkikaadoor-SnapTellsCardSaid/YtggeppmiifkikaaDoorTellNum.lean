/- The document's numbers and texts at the front of bytes. -/
import Derived.Test.YtggeppmiifkikaaDoorTellRef
import Derived.Test.YtggeppmiifkikaaDoorSnapDec
import Derived.OwnWalk
import Derived.Test.YtggeppmiifkikaaDoorQuiet
namespace Go.Proofs.YtggeppmiifkikaaDoor
open Go Go.RowKit Go.Shelf

theorem numD_cases (n : Nat) (r : List UInt8) : (r.length < n ∧ numD n r = none) ∨ (n ≤ r.length ∧ ((9223372036854775808 ≤ numL (r.take n) ∧ numD n r = none) ∨ (numL (r.take n) < 9223372036854775808 ∧ numD n r = some (numL (r.take n), r.drop n)))) := by
  unfold numD
  by_cases h : n ≤ r.length
  · by_cases h2 : numL (r.take n) < 9223372036854775808
    · exact .inr ⟨h, .inr ⟨h2, if_pos ⟨h, h2⟩⟩⟩
    · exact .inr ⟨h, .inl ⟨by omega, if_neg fun hh => h2 hh.2⟩⟩
  · exact .inl ⟨by omega, if_neg fun hh => h hh.1⟩
/-- What number tells. -/
def NumQ (n : Nat) (r : List UInt8) (e : Ending) : Prop :=
  (numD n r = none ∧ e = .returned (.tuple #[.int .i64 0, .string ⟨#[]⟩, .bool false])) ∨ ∃ (v : Nat) (r1 : List UInt8), numD n r = some (v, r1) ∧ e = .returned (.tuple #[.int .i64 v, .string ⟨r1.toArray⟩, .bool true])
set_option maxRecDepth 100000 in
set_option maxHeartbeats 1000000 in
theorem Ref_number (r : List UInt8) (n : Nat) (hn : n ≤ 8) (hr : r.length ≤ 100000) (w : World) :
    Calls Tryd.prog 37 #[.string ⟨r.toArray⟩, .int .i64 n] w fun e w' => NumQ n r e ∧ Keep w w' := by
  obtain ⟨s, hs⟩ : ∃ s : ByteArray, ⟨r.toArray⟩ = s := ⟨_, rfl⟩
  have hz : s.size = r.length := by rw [← hs]; exact ba_size r
  have hget : ∀ k (h : k < s.size) (h' : k < r.length), s[k]'h = r[k]'h' := by subst hs; intro k h h'; rfl
  obtain ⟨m, hm⟩ : ∃ m, r.length = m := ⟨_, rfl⟩
  have e2 := hide (extract_back r n)
  have hc := numD_cases n r
  have hQ : Hide (∀ e, ((numD n r = none ∧ e = .returned (.tuple #[.int .i64 0, .string ⟨#[]⟩, .bool false])) → NumQ n r e) ∧ (∀ v r1, numD n r = some (v, r1) → e = .returned (.tuple #[.int .i64 v, .string ⟨r1.toArray⟩, .bool true]) → NumQ n r e)) := ⟨fun e => ⟨fun h => .inl h, fun v r1 h h' => .inr ⟨v, r1, h, h'⟩⟩⟩
  rw [hm] at hr hz e2 hc
  rw [hs] at e2
  rw [hs]
  have hget := hide hget
  have hm := hide hm
  clear hs
  rcases hc with ⟨h1, h2⟩ | ⟨h1, h2⟩
  · have h1' : (m : Int) < n := by omega
    have h2 := hide h2
    go_enter Tryd.func37, Tryd.ntmps37
    go_wp2
    go_ret3
    exact ⟨(hQ.out _).1 ⟨h2.out, rfl⟩, Keep.refl w⟩
  · have h1' : ¬ (m : Int) < n := by omega
    have h2 := hide h2
    go_enter Tryd.func37, Tryd.ntmps37
    go_wp2
    go_loop [7, 8] (fun v i => ∃ (k x : Nat), v = .int .u64 x ∧ i = .int .i64 k ∧ k ≤ n ∧ Hide (x = numL (r.take k))) (fun _ i => (n - intOf i).toNat)
    case atStart => exact ⟨0, 0, rfl, rfl, Nat.zero_le _, ⟨rfl⟩⟩
    case round =>
      obtain ⟨k, x, rfl, rfl, hk, hX⟩ := hrel
      by_cases hlt : k < n
      · have hlt' : (k : Int) < n := by omega
        have hks : k < s.size := by omega
        obtain ⟨d, hd⟩ : ∃ d, (s[k]'hks).toNat = d := ⟨_, rfl⟩
        have hcl : d < 256 := by rw [← hd]; exact UInt8.toNat_lt _
        have hxl : x < 72057594037927936 := by
          have := numL_bound (l := r.take k) (k := 7) (by rw [List.length_take]; omega)
          rw [← hX.out] at this
          exact this
        have hst : numL (r.take (k + 1)) = 256 * x + d := by
          have hkr : k < r.length := by rw [hm.out]; omega
          rw [List.take_add_one, List.getElem?_eq_getElem hkr]
          have := numL_snoc (r.take k) (r[k]'hkr)
          rw [← hget.out k hks hkr, hd, ← hX.out] at this
          rw [← hget.out k hks hkr]
          exact this
        have f0 : IntKind.u64.wrap (d : Int) = (d : Int) := by rw [IntKind.wrap_u64]; omega
        obtain ⟨y, hy⟩ : ∃ y, 256 * x = y := ⟨_, rfl⟩
        have f1 : IntKind.u64.wrap ((x : Int) * 256) = (y : Int) := by rw [IntKind.wrap_u64]; omega
        obtain ⟨z, hz2⟩ : ∃ z, y + d = z := ⟨_, rfl⟩
        have f2 : IntKind.u64.wrap ((y : Int) + d) = (z : Int) := by rw [IntKind.wrap_u64]; omega
        have hN : Hide (z = numL (r.take (k + 1))) := ⟨by rw [hst, hy, hz2]⟩
        clear hst hy hz2 hxl
        go_wp2
        go_round
        case rel => exact ⟨k + 1, z, rfl, by go_num, hlt, hN⟩
        case measure => (simp [intOf] <;> omega)
      · obtain rfl : n = k := by omega
        have hxl : x < 18446744073709551616 := by
          have := numL_bound (l := r.take n) (k := 8) (by rw [List.length_take]; omega)
          rw [← hX.out] at this
          exact this
        have h2 := h2.out
        rw [← hX.out] at h2
        have hnm : (n : Int) ≤ m := by omega
        rcases h2 with ⟨h3, h4⟩ | ⟨h3, h4⟩
        · have h3' : (9223372036854775808 : Int) ≤ x := by omega
          have h4 := hide h4
          clear h3
          go_wp2
          go_ret3
          exact ⟨(hQ.out _).1 ⟨h4.out, rfl⟩, Keep.refl w⟩
        · have h3' : ¬ (9223372036854775808 : Int) ≤ x := by omega
          have h5 : IntKind.i64.wrap (x : Int) = x := IntWalk.i64_in _ (by omega)
          have h4 := hide h4
          clear h3 hX
          go_wp2
          (refine wp_region_kept (by kernel_rfl) (by kernel_rfl) ?_; (repeat (go_big_quiet_step (fail))); refine wpQuiet_nil ?_; intro _ hw'; obtain ⟨uq, hw''⟩ := hw'; subst hw'')
          go_wp2
          go_ret3
          exact ⟨(hQ.out _).2 x (r.drop n) h4.out (congrArg (fun y => Ending.returned (.tuple #[.int .i64 x, .string y, .bool true])) e2.out), uq.keep⟩
theorem Ref_number1 (r : List UInt8) (hr : r.length ≤ 100000) (w : World) : Calls Tryd.prog 37 #[.string ⟨r.toArray⟩, .int .i64 1] w fun e w' => NumQ 1 r e ∧ Keep w w' := Ref_number r 1 (by omega) hr w
theorem Ref_number2 (r : List UInt8) (hr : r.length ≤ 100000) (w : World) : Calls Tryd.prog 37 #[.string ⟨r.toArray⟩, .int .i64 2] w fun e w' => NumQ 2 r e ∧ Keep w w' := Ref_number r 2 (by omega) hr w
theorem Ref_number8 (r : List UInt8) (hr : r.length ≤ 100000) (w : World) : Calls Tryd.prog 37 #[.string ⟨r.toArray⟩, .int .i64 8] w fun e w' => NumQ 8 r e ∧ Keep w w' := Ref_number r 8 (by omega) hr w
set_option maxRecDepth 100000 in
theorem Ref_text_ok (r : List UInt8) (n : Nat) (hn : n ≤ r.length) (w : World) :
    Calls Tryd.prog 52 #[.string ⟨r.toArray⟩, .int .i64 n] w fun e w' => e = .returned (.tuple #[.string ⟨(r.take n).toArray⟩, .string ⟨(r.drop n).toArray⟩, .bool true]) ∧ Keep w w' := by
  obtain ⟨s, hs⟩ : ∃ s : ByteArray, ⟨r.toArray⟩ = s := ⟨_, rfl⟩
  have hz : s.size = r.length := by rw [← hs]; exact ba_size r
  obtain ⟨m, hm⟩ : ∃ m, r.length = m := ⟨_, rfl⟩
  have e1 := hide (extract_front r n)
  have e2 := hide (extract_back r n)
  rw [hm] at hn hz e2
  rw [hs] at e1 e2
  rw [hs]
  have hlt : ¬ (m : Int) < n := by omega
  have hlt2 : (n : Int) ≤ m := by omega
  clear hs hm
  go_enter Tryd.func52, Tryd.ntmps52
  go_wp2
  (refine wp_region_kept (by kernel_rfl) (by kernel_rfl) ?_; (repeat (go_big_quiet_step (fail))); refine wpQuiet_nil ?_; intro _ hw'; obtain ⟨uq, hw''⟩ := hw'; subst hw'')
  go_wp2
  go_ret3
  exact ⟨(congrArg (fun y => Ending.returned (.tuple #[.string y, .string (s.extract n m), .bool true])) e1.out).trans (congrArg (fun y => Ending.returned (.tuple #[.string ⟨(r.take n).toArray⟩, .string y, .bool true])) e2.out), uq.keep⟩
set_option maxRecDepth 100000 in
theorem Ref_text_no (r : List UInt8) (n : Nat) (hn : r.length < n) (w : World) :
    Calls Tryd.prog 52 #[.string ⟨r.toArray⟩, .int .i64 n] w fun e w' => e = .returned (.tuple #[.string ⟨#[]⟩, .string ⟨#[]⟩, .bool false]) ∧ Keep w w' := by
  obtain ⟨s, hs⟩ : ∃ s : ByteArray, ⟨r.toArray⟩ = s := ⟨_, rfl⟩
  have hz : s.size = r.length := by rw [← hs]; exact ba_size r
  obtain ⟨m, hm⟩ : ∃ m, r.length = m := ⟨_, rfl⟩
  rw [hm] at hn hz
  rw [hs]
  have hlt : (m : Int) < n := by omega
  clear hs hm
  go_enter Tryd.func52, Tryd.ntmps52
  go_wp2
  go_ret3
  exact ⟨rfl, Keep.refl w⟩
theorem num1_no (r : List UInt8) (h : numD 1 r = none) (hr : r.length ≤ 100000) (w : World) : Calls Tryd.prog 37 #[.string ⟨r.toArray⟩, .int .i64 1] w fun e w' => e = .returned (.tuple #[.int .i64 0, .string ⟨#[]⟩, .bool false]) ∧ Keep w w' := by
  refine (Ref_number1 r hr w).mono ?_
  rintro e w' ⟨⟨_, h1⟩ | ⟨v, r1, h1, _⟩, hk⟩
  · exact ⟨h1, hk⟩
  · rw [h] at h1; cases h1
theorem num1_ok (r r1 : List UInt8) (v : Nat) (h : numD 1 r = some (v, r1)) (hr : r.length ≤ 100000) (w : World) : Calls Tryd.prog 37 #[.string ⟨r.toArray⟩, .int .i64 1] w fun e w' => e = .returned (.tuple #[.int .i64 v, .string ⟨r1.toArray⟩, .bool true]) ∧ Keep w w' := by
  refine (Ref_number1 r hr w).mono ?_
  rintro e w' ⟨⟨h1, _⟩ | ⟨v', r1', h1, h2⟩, hk⟩
  · rw [h] at h1; cases h1
  · rw [h] at h1; cases h1
    exact ⟨h2, hk⟩
theorem num2_no (r : List UInt8) (h : numD 2 r = none) (hr : r.length ≤ 100000) (w : World) : Calls Tryd.prog 37 #[.string ⟨r.toArray⟩, .int .i64 2] w fun e w' => e = .returned (.tuple #[.int .i64 0, .string ⟨#[]⟩, .bool false]) ∧ Keep w w' := by
  refine (Ref_number2 r hr w).mono ?_
  rintro e w' ⟨⟨_, h1⟩ | ⟨v, r1, h1, _⟩, hk⟩
  · exact ⟨h1, hk⟩
  · rw [h] at h1; cases h1
theorem num2_ok (r r1 : List UInt8) (v : Nat) (h : numD 2 r = some (v, r1)) (hr : r.length ≤ 100000) (w : World) : Calls Tryd.prog 37 #[.string ⟨r.toArray⟩, .int .i64 2] w fun e w' => e = .returned (.tuple #[.int .i64 v, .string ⟨r1.toArray⟩, .bool true]) ∧ Keep w w' := by
  refine (Ref_number2 r hr w).mono ?_
  rintro e w' ⟨⟨h1, _⟩ | ⟨v', r1', h1, h2⟩, hk⟩
  · rw [h] at h1; cases h1
  · rw [h] at h1; cases h1
    exact ⟨h2, hk⟩
theorem num8_no (r : List UInt8) (h : numD 8 r = none) (hr : r.length ≤ 100000) (w : World) : Calls Tryd.prog 37 #[.string ⟨r.toArray⟩, .int .i64 8] w fun e w' => e = .returned (.tuple #[.int .i64 0, .string ⟨#[]⟩, .bool false]) ∧ Keep w w' := by
  refine (Ref_number8 r hr w).mono ?_
  rintro e w' ⟨⟨_, h1⟩ | ⟨v, r1, h1, _⟩, hk⟩
  · exact ⟨h1, hk⟩
  · rw [h] at h1; cases h1
theorem num8_ok (r r1 : List UInt8) (v : Nat) (h : numD 8 r = some (v, r1)) (hr : r.length ≤ 100000) (w : World) : Calls Tryd.prog 37 #[.string ⟨r.toArray⟩, .int .i64 8] w fun e w' => e = .returned (.tuple #[.int .i64 v, .string ⟨r1.toArray⟩, .bool true]) ∧ Keep w w' := by
  refine (Ref_number8 r hr w).mono ?_
  rintro e w' ⟨⟨h1, _⟩ | ⟨v', r1', h1, h2⟩, hk⟩
  · rw [h] at h1; cases h1
  · rw [h] at h1; cases h1
    exact ⟨h2, hk⟩
theorem text_no (r : List UInt8) (n : Nat) (h : txtD n r = none) (w : World) :
    Calls Tryd.prog 52 #[.string ⟨r.toArray⟩, .int .i64 n] w fun e w' => e = .returned (.tuple #[.string ⟨#[]⟩, .string ⟨#[]⟩, .bool false]) ∧ Keep w w' := by
  unfold txtD at h
  split at h
  · cases h
  · exact Ref_text_no r n (by omega) w
theorem text_ok (r t r1 : List UInt8) (n : Nat) (h : txtD n r = some (t, r1)) (w : World) :
    Calls Tryd.prog 52 #[.string ⟨r.toArray⟩, .int .i64 n] w fun e w' => e = .returned (.tuple #[.string ⟨t.toArray⟩, .string ⟨r1.toArray⟩, .bool true]) ∧ Keep w w' := by
  unfold txtD at h
  split at h
  · cases h
    exact Ref_text_ok r n (by assumption) w
  · cases h
end Go.Proofs.YtggeppmiifkikaaDoor
