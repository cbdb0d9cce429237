/- The contracts of value.Right, snap.Fits. -/
import Derived.Test.YtggeppmiifkikaaDoorSnapMath
import Derived.Test.YtggeppmiifkikaaDoorQuiet
import Derived.Outline
namespace Go.Proofs.YtggeppmiifkikaaDoor
open Go Go.RowKit

theorem Val_fault (op key : ByteArray) (n : Int) (w : World) :
    Calls Tryd.prog 44 #[.string op, .string key, .int .i64 n] w fun r w' => ∃ v, r = .returned v ∧ Keep w w' ∧ ErrAt w' (.fault op key (.no n)) v := by
  go_enter Tryd.func44, Tryd.ntmps44
  go_wp2
  go_ret
  refine ⟨_, rfl, (Keep.refl _).alloc, ?_⟩
  exact (Holds.mkErr (L := []) rfl (Holds.start w).alloc).errAt
theorem Snap_fault (op : ByteArray) (e : EV) (t : TypeId) (u : Value) (w : World) (he : ErrAt w e (.iface t u)) :
    Calls Tryd.prog 33 #[.string op, .iface t u] w fun r w' => ∃ v, r = .returned v ∧ Keep w w' ∧ ErrAt w' (.fault op ⟨#[]⟩ e) v := by
  have he := hide he
  go_enter Tryd.func33, Tryd.ntmps33
  go_wp2
  go_ret
  refine ⟨_, rfl, (Keep.refl _).alloc, _, _, rfl, heap_alloc_new w _, he.out.keep (Keep.refl _).alloc⟩
theorem Snap_fault_no (op : ByteArray) (n : Int) (w : World) :
    Calls Tryd.prog 33 #[.string op, .iface 63 (.int .i64 n)] w fun r w' => ∃ v, r = .returned v ∧ Keep w w' ∧ ErrAt w' (.fault op ⟨#[]⟩ (.no n)) v := Snap_fault op (.no n) _ _ w rfl
theorem In_val (n a b : Int) (d : Bool) (h : decide (inR n a b) = d) (w : World) :
    Calls Tryd.prog 39 #[.int .i64 n, .int .i64 a, .int .i64 b] w fun r w' => r = .returned (.bool d) ∧ w = w' := by
  subst h
  by_cases h1 : a ≤ n
  · by_cases h2 : n ≤ b
    · rw [show decide (inR n a b) = true from decide_eq_true ⟨h1, h2⟩]
      go_enter Tryd.func39, Tryd.ntmps39
      go_wp2
      go_ret
      exact ⟨rfl, rfl⟩
    · rw [show decide (inR n a b) = false from decide_eq_false fun h => h2 h.2]
      have h2' : b < n := by omega
      clear h2
      go_enter Tryd.func39, Tryd.ntmps39
      go_wp2
      go_ret
      exact ⟨by simp; omega, rfl⟩
  · rw [show decide (inR n a b) = false from decide_eq_false fun h => h1 h.1]
    have h1' : n < a := by omega
    clear h1
    go_enter Tryd.func39, Tryd.ntmps39
    go_wp2
    go_ret
    exact ⟨rfl, rfl⟩
theorem In_t (n a b : Int) (h : a ≤ n ∧ n ≤ b) (w : World) :
    Calls Tryd.prog 39 #[.int .i64 n, .int .i64 a, .int .i64 b] w fun r w' => r = .returned (.bool true) ∧ w = w' := In_val n a b true (decide_eq_true h) w
theorem In_f (n a b : Int) (h : ¬ (a ≤ n ∧ n ≤ b)) (w : World) :
    Calls Tryd.prog 39 #[.int .i64 n, .int .i64 a, .int .i64 b] w fun r w' => r = .returned (.bool false) ∧ w = w' := In_val n a b false (decide_eq_false h) w
theorem size_eq_zero {s : ByteArray} : s.size = 0 ↔ s.toList = [] := by
  rw [ByteArray.toList_eq]
  show s.data.size = 0 ↔ s.data.toList = []
  constructor
  · intro h
    exact List.length_eq_zero_iff.1 h
  · intro h
    exact congrArg List.length h
set_option maxHeartbeats 2000000 in
theorem Val_Right (x : It) (w : World) :
    Calls Tryd.prog 23 #[.agg #[.string x.key, .string x.val, .int .i64 x.dl]] w fun r w' => ∃ v, r = .returned v ∧ Keep w w' ∧ ErrAt w' (itE x) v := by
  obtain ⟨k, v, d⟩ := x
  have hK := hide ((Keep.refl w).alloc (o := .cells #[.string k, .string v, .int .i64 d] 53))
  by_cases h0 : k.size = 0
  · have e : itE ⟨k, v, d⟩ = .fault tItem k (.no 3) := by simp [itE, itC, h0]
    have h0' : k.toList = [] := size_eq_zero.1 h0
    rw [e]
    have h0 := hide h0
    go_enter Tryd.func23, Tryd.ntmps23
    go_wp2_with (go_at_call 44; (with_reducible refine (Val_fault _ _ _ _).mono ?_); rintro r w1 ⟨v1, rfl, hk, he⟩; have hk := hide hk; have he := hide he)
    go_ret
    exact ⟨v1, rfl, hK.out.trans hk.out, he.out⟩
  · have h0' : ¬ k.toList = [] := fun h => h0 (size_eq_zero.2 h)
    have h0'' : k.toList.isEmpty = false := by simpa using h0'
    by_cases h1 : 64 < k.size
    · have e : itE ⟨k, v, d⟩ = .fault tItem k (.no 4) := by simp [itE, itC, h0, h1]
      rw [e]
      have h1' : (64 : Int) < k.size := by omega
      have h0 := hide h0
      clear h1
      go_enter Tryd.func23, Tryd.ntmps23
      go_wp2_with (go_at_call 44; (with_reducible refine (Val_fault _ _ _ _).mono ?_); rintro r w1 ⟨v1, rfl, hk, he⟩; have hk := hide hk; have he := hide he)
      go_ret
      exact ⟨v1, rfl, hK.out.trans hk.out, he.out⟩
    · have h1' : ¬ (64 : Int) < k.size := by omega
      by_cases h2 : 256 < v.size
      · have e : itE ⟨k, v, d⟩ = .fault tItem k (.no 4) := by simp [itE, itC, h0, h2]
        rw [e]
        have h2' : (256 : Int) < v.size := by omega
        have h0 := hide h0
        clear h1 h2
        go_enter Tryd.func23, Tryd.ntmps23
        go_wp2_with (go_at_call 44; (with_reducible refine (Val_fault _ _ _ _).mono ?_); rintro r w1 ⟨v1, rfl, hk, he⟩; have hk := hide hk; have he := hide he)
        go_ret
        exact ⟨v1, rfl, hK.out.trans hk.out, he.out⟩
      · have h2' : ¬ (256 : Int) < v.size := by omega
        by_cases h3 : d < 0
        · have e : itE ⟨k, v, d⟩ = .fault tItem k (.no 1) := by simp [itE, itC, h0, h1, h2, h3]
          rw [e]
          have h0 := hide h0
          clear h1 h2
          go_enter Tryd.func23, Tryd.ntmps23
          go_wp2_with (go_at_call 44; (with_reducible refine (Val_fault _ _ _ _).mono ?_); rintro r w1 ⟨v1, rfl, hk, he⟩; have hk := hide hk; have he := hide he)
          go_ret
          exact ⟨v1, rfl, hK.out.trans hk.out, he.out⟩
        · have e : itE ⟨k, v, d⟩ = .nil := by simp [itE, itC, h0, h1, h2, h3]
          rw [e]
          have h0 := hide h0
          clear h1 h2
          go_enter Tryd.func23, Tryd.ntmps23
          go_wp2
          go_ret
          exact ⟨_, rfl, hK.out, rfl⟩

/-! ### Set-ups -/
def cfgCells (c : Cfg) : Array Value := #[.int .i64 c.size, .int .i64 c.shift, .int .i64 c.window, .int .i64 c.margin, .int .i64 c.hold, .int .i64 c.quota, .int .i64 c.pin]
theorem cfgC_cases (c : Cfg) : ∃ n, cfgC c = n ∧ ((n = 7 ∧ ¬ (-1 ≤ c.pin ∧ c.pin ≤ 6)) ∨
    (-1 ≤ c.pin ∧ c.pin ≤ 6) ∧ ((n = 1 ∧ ¬ (0 ≤ c.size ∧ c.size ≤ 16777216)) ∨ (0 ≤ c.size ∧ c.size ≤ 16777216) ∧ ((n = 1 ∧ ¬ (0 ≤ c.shift ∧ c.shift ≤ 16)) ∨ (0 ≤ c.shift ∧ c.shift ≤ 16) ∧
      ((n = 1 ∧ ¬ (1 ≤ c.window ∧ c.window ≤ 1048576)) ∨ (1 ≤ c.window ∧ c.window ≤ 1048576) ∧ ((n = 1 ∧ ¬ (0 ≤ c.margin ∧ c.margin ≤ 1073741824)) ∨ (0 ≤ c.margin ∧ c.margin ≤ 1073741824) ∧
        ((n = 1 ∧ ¬ (1 ≤ c.hold ∧ c.hold ≤ 64)) ∨ (1 ≤ c.hold ∧ c.hold ≤ 64) ∧ ((n = 1 ∧ ¬ (1 ≤ c.quota ∧ c.quota ≤ 64)) ∨ (1 ≤ c.quota ∧ c.quota ≤ 64) ∧ n = 0))))))) := by
  refine ⟨_, rfl, ?_⟩
  unfold cfgC cfgOk inR
  split
  · exact .inl ⟨rfl, by assumption⟩
  · split <;> omega
set_option maxHeartbeats 8000000 in
theorem Snap_Fits (c : Cfg) (w : World) :
    Calls Tryd.prog 18 #[.agg (cfgCells c)] w fun r w' => ∃ v, r = .returned v ∧ Keep w w' ∧ ErrAt w' (cfgE c) v := by
  obtain ⟨n, hn, hc⟩ := cfgC_cases c
  unfold cfgE
  rw [hn]
  clear hn
  obtain ⟨size, shift, window, margin, hold, quota, pin⟩ := c
  unfold cfgCells
  dsimp only at hc ⊢
  have hK := hide ((Keep.refl w).alloc (o := .cells #[.int .i64 size, .int .i64 shift, .int .i64 window, .int .i64 margin, .int .i64 hold, .int .i64 quota, .int .i64 pin] 23))
  rcases hc with ⟨rfl, h⟩ | ⟨h0, ⟨rfl, h⟩ | ⟨h1, ⟨rfl, h⟩ | ⟨h2, ⟨rfl, h⟩ | ⟨h3, ⟨rfl, h⟩ | ⟨h4, ⟨rfl, h⟩ | ⟨h5, ⟨rfl, h⟩ | ⟨h6, rfl⟩⟩⟩⟩⟩⟩⟩
  all_goals
    first
      | rw [if_neg (by omega)]
      | rw [if_pos rfl]
    try have h := hide h
    try have h0 := hide h0
    try have h1 := hide h1
    try have h2 := hide h2
    try have h3 := hide h3
    try have h4 := hide h4
    try have h5 := hide h5
    try have h6 := hide h6
    go_enter Tryd.func18, Tryd.ntmps18
    go_wp2_with (first
      | (go_at_call 39; (with_reducible refine (In_f _ _ _ h.out _).mono ?_); rintro r w' ⟨rfl, rfl⟩)
      | (go_at_call 39; (with_reducible refine (In_t _ _ _ h0.out _).mono ?_); rintro r w' ⟨rfl, rfl⟩)
      | (go_at_call 39; (with_reducible refine (In_t _ _ _ h1.out _).mono ?_); rintro r w' ⟨rfl, rfl⟩)
      | (go_at_call 39; (with_reducible refine (In_t _ _ _ h2.out _).mono ?_); rintro r w' ⟨rfl, rfl⟩)
      | (go_at_call 39; (with_reducible refine (In_t _ _ _ h3.out _).mono ?_); rintro r w' ⟨rfl, rfl⟩)
      | (go_at_call 39; (with_reducible refine (In_t _ _ _ h4.out _).mono ?_); rintro r w' ⟨rfl, rfl⟩)
      | (go_at_call 39; (with_reducible refine (In_t _ _ _ h5.out _).mono ?_); rintro r w' ⟨rfl, rfl⟩)
      | (go_at_call 39; (with_reducible refine (In_t _ _ _ h6.out _).mono ?_); rintro r w' ⟨rfl, rfl⟩)
      | (go_at_call 33; (with_reducible refine (Snap_fault_no _ _ _).mono ?_); rintro r w1 ⟨v1, rfl, hk, he⟩; have hk := hide hk; have he := hide he))
    go_ret
    first
      | exact ⟨v1, rfl, hK.out.trans hk.out, he.out⟩
      | exact ⟨_, rfl, hK.out, rfl⟩
end Go.Proofs.YtggeppmiifkikaaDoor
