/- errors.Is, (*api.Fault).Unwrap, the laws' Wraps. -/
import Derived.Test.YtggeppmiifkikaaDoorErr
import Derived.Deep.LoopGhost
import Derived.Handy
namespace Go.Proofs.YtggeppmiifkikaaDoor
open Go Go.RowKit Go.Extern.Stop Go.Stop Go.Extern

def EV.depth : EV → Nat
  | .nil => 0
  | .no _ => 0
  | .fault _ _ e => e.depth + 1
/-- It doesn't end in nil. -/
def EV.sound : EV → Prop
  | .nil => False
  | .no _ => True
  | .fault _ _ e => e.sound
def isErr : EV → Int → Bool
  | .nil, _ => false
  | .no n, c => n == c
  | .fault _ _ e, c => isErr e c

theorem unwrap_any (b : Nat) (op key : ByteArray) (ve : Value) (w : World) (h : w.heap[b]? = some (.cells #[.string op, .string key, ve] 59)) :
    Calls Tryd.prog 74 #[.pointer (some ⟨b, 0, none⟩)] w fun e w' => e = .returned ve ∧ w = w' := by
  have c2 : w.cell? ⟨b, 2, none⟩ = some ve := by simp [World.cell?, h]
  go_enter Tryd.func74, Tryd.ntmps74
  go_wp2
  go_ret
  exact ⟨rfl, rfl⟩
theorem eqlNo (n c : Int) (w : World) : (binOp BinOp.eql 30 (.iface 63 (.int .i64 n)) (.iface 63 (.int .i64 c))).run Tryd.prog w = .ok (.bool (n == c)) w := by kernel_rfl
theorem eqlFault (p : Value) (c : Int) (w : World) : (binOp BinOp.eql 30 (.iface 55 p) (.iface 63 (.int .i64 c))).run Tryd.prog w = .ok (.bool false) w := by kernel_rfl
theorem assertIsNo (n : Int) (w : World) : (Instr.typeAssert (.iface 63 (.int .i64 n)) 30 125 true).run Tryd.prog w = .ok (.tuple #[.nilIface, .bool false]) w := run_typeAssert_lacksB Tryd.underlying125 (by kernel_rfl) (by kernel_rfl) _ _ _
theorem assertIsFault (p : Value) (w : World) : (Instr.typeAssert (.iface 55 p) 30 125 true).run Tryd.prog w = .ok (.tuple #[.nilIface, .bool false]) w := run_typeAssert_lacksB Tryd.underlying125 (by kernel_rfl) (by kernel_rfl) _ _ _
theorem assertUnNo (n : Int) (w : World) : (Instr.typeAssert (.iface 63 (.int .i64 n)) 30 102 true).run Tryd.prog w = .ok (.tuple #[.nilIface, .bool false]) w := run_typeAssert_lacksB Tryd.underlying102 (by kernel_rfl) (by kernel_rfl) _ _ _
theorem assertUnsNo (n : Int) (w : World) : (Instr.typeAssert (.iface 63 (.int .i64 n)) 30 122 true).run Tryd.prog w = .ok (.tuple #[.nilIface, .bool false]) w := run_typeAssert_lacksB Tryd.underlying122 (by kernel_rfl) (by kernel_rfl) _ _ _
theorem assertUnFault (p : Value) (w : World) : (Instr.typeAssert (.iface 55 p) 30 102 true).run Tryd.prog w = .ok (.tuple #[.iface 55 p, .bool true]) w := run_typeAssert_hasB Tryd.underlying102 (by kernel_rfl) _ _ _
theorem methodUnwrap (b : Nat) (w : World) : (Go.method 257 55 (.pointer (some ⟨b, 0, none⟩)) "Unwrap").run Tryd.prog w = .ok (74, .pointer (some ⟨b, 0, none⟩)) w := by kernel_rfl

theorem eqlNil (t : Nat) (v : Value) (w : World) : (binOp BinOp.eql 30 (.iface t v) .nilIface).run Tryd.prog w = .ok (.bool false) w := by kernel_rfl
theorem neqNil (t : Nat) (v : Value) (w : World) : (binOp BinOp.neq 30 (.iface t v) .nilIface).run Tryd.prog w = .ok (.bool true) w := by kernel_rfl
theorem typeOfNo (v : Value) (w : World) : (ReflectliteType.typeOf #[.iface 63 v]).run Tryd.prog w = .ok (.iface 115 (.agg #[.pointer (some ⟨1, 63, none⟩)])) w := by kernel_rfl
theorem methodComparable (h : Value) (w : World) : (Go.method 257 115 (.agg #[h]) "Comparable").run Tryd.prog w = .ok (82, .agg #[h]) w := by kernel_rfl
theorem comparableNo (w : World) : (ReflectliteType.method (fun t => do Rtype.noPackHeld "Comparable" t; (fun a : TypeInfo => Value.bool a.comparable) <$> typeInfo t) #[.agg #[.pointer (some ⟨1, 63, none⟩)]]).run Tryd.prog w = .ok (.bool true) w := by kernel_rfl
theorem ErrAt.iface {w : World} {e : EV} {v : Value} (h : ErrAt w e v) (hn : e.sound) : ∃ t u, v = .iface t u := by
  cases e with
  | nil => exact hn.elim
  | no n => exact ⟨_, _, h⟩
  | fault op key e => obtain ⟨b, ve, h1, _⟩ := h; exact ⟨_, _, h1⟩

set_option maxRecDepth 100000 in
set_option maxHeartbeats 2000000 in
/-- errors.is, at an error whose root is a number. -/
theorem is_any (c : Int) (e : EV) (v : Value) (w : World) (he : ErrAt w e v) (hn : e.sound) :
    Calls Tryd.prog 46 #[v, .iface 63 (.int .i64 c), .bool true] w fun r w' => r = .returned (.bool (isErr e c)) ∧ w = w' := by
  go_enter Tryd.func46, Tryd.ntmps46
  go_wp2
  go_loopg [0] (e.depth) (fun k t wr => ∃ e' : EV, e'.depth = k ∧ e'.sound ∧ ErrAt w e' t ∧ isErr e' c = isErr e c ∧ w = wr)
  case atStart => exact ⟨e, rfl, hn, he, rfl, rfl⟩
  case round =>
    obtain ⟨e', hd, hs, ha, hi, rfl⟩ := hrel
    have hd := hide hd
    have hI := hide hi
    clear hi
    cases e' with
    | nil => exact hs.elim
    | no n =>
      obtain rfl := ha
      have h1 := eqlNo n c
      have h2 := assertIsNo n
      have h3 := assertUnNo n
      have h4 := assertUnsNo n
      cases hb : (n == c)
      all_goals
        rw [hb] at h1
        have hB := hide hb
        clear hb
        go_wp2
        go_ret
        exact ⟨by rw [hI.out.symm.trans hB.out]; rfl, rfl⟩
    | fault op key e1 =>
      obtain ⟨b, ve, rfl, hb, ha1⟩ := ha
      obtain ⟨t', u', rfl⟩ := ha1.iface hs
      have h1 := eqlFault (.pointer (some ⟨b, 0, none⟩)) c
      have h2 := assertIsFault (.pointer (some ⟨b, 0, none⟩))
      have h3 := assertUnFault (.pointer (some ⟨b, 0, none⟩))
      have h4 := methodUnwrap b
      have h5 := eqlNil t' u'
      go_wp2_with (go_at_call 74; refine (unwrap_any b op key _ _ hb).mono ?_; rintro r w' ⟨rfl, rfl⟩)
      go_roundg e1.depth
      case measure => rw [← hd.out]; exact Nat.lt_succ_self _
      case rel => exact ⟨e1, rfl, hs, ha1, hI.out, rfl⟩

/-- errors.Is. -/
theorem Is_any (c : Int) (e : EV) (v : Value) (w : World) (he : ErrAt w e v) (hn : e.sound) :
    Calls Tryd.prog 24 #[v, .iface 63 (.int .i64 c)] w fun r w' => r = .returned (.bool (isErr e c)) ∧ w = w' := by
  obtain ⟨t', u', rfl⟩ := he.iface hn
  have h5 := eqlNil t' u'
  have h6 := eqlNil 63 (.int .i64 c)
  have h10 := @run_callFunc_extern Tryd.prog 45 _ ReflectliteType.typeOf Tryd.func45 (by kernel_rfl) (by kernel_rfl) (by kernel_rfl) (by kernel_rfl)
  have h11 := @run_callFunc_extern Tryd.prog 82 _ (ReflectliteType.method (fun t => do Rtype.noPackHeld "Comparable" t; pure (.bool (← typeInfo t).comparable))) Tryd.func82 (by kernel_rfl) (by kernel_rfl) (by kernel_rfl) (by kernel_rfl)
  have t1 := typeOfNo (.int .i64 c)
  have m1 := methodComparable
  have t2 := comparableNo
  go_enter Tryd.func24, Tryd.ntmps24
  go_wp2_with (go_at_call 46; refine (is_any c e _ _ he hn).mono ?_; rintro r w' ⟨rfl, rfl⟩)
  go_ret
  exact ⟨rfl, rfl⟩
end Go.Proofs.YtggeppmiifkikaaDoor
