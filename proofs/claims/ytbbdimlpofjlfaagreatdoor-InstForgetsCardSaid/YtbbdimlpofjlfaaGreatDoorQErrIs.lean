/- errors.Is, (*api.Fault).Unwrap, the laws' Wraps. -/
import Derived.Test.YtbbdimlpofjlfaaGreatDoorQErr
import Derived.Deep.LoopGhost
import Derived.Handy
namespace Go.Proofs.YtbbdimlpofjlfaaGreatDoor
open Go Go.RowKit Go.Extern.Stop Go.Stop Go.Extern

def EV.depth : EV → Nat
  | .nil => 0
  | .no _ => 0
  | .fault _ _ e => e.depth + 1
/-- It doesn't end in nil. -/
def EV.sound : EV → Prop
  | .nil => False
  | .no _ => True
  | .fault _ _ e => e.sound
def isErr : EV → Int → Bool
  | .nil, _ => false
  | .no n, c => n == c
  | .fault _ _ e, c => isErr e c

theorem unwrap_any (b : Nat) (op key : ByteArray) (ve : Value) (w : World) (h : w.heap[b]? = some (.cells #[.string op, .string key, ve] 105)) :
    Calls Tryz.prog 343 #[.pointer (some ⟨b, 0, none⟩)] w fun e w' => e = .returned ve ∧ w = w' := by
  have c2 : w.cell? ⟨b, 2, none⟩ = some ve := by simp [World.cell?, h]
  go_enter Tryz.func343, Tryz.ntmps343
  go_wp2
  go_ret
  exact ⟨rfl, rfl⟩
theorem eqlNo (n c : Int) (w : World) : (binOp BinOp.eql 27 (.iface 117 (.int .i64 n)) (.iface 117 (.int .i64 c))).run Tryz.prog w = .ok (.bool (n == c)) w := by kernel_rfl
theorem eqlFault (p : Value) (c : Int) (w : World) : (binOp BinOp.eql 27 (.iface 103 p) (.iface 117 (.int .i64 c))).run Tryz.prog w = .ok (.bool false) w := by kernel_rfl
theorem assertIsNo (n : Int) (w : World) : (Instr.typeAssert (.iface 117 (.int .i64 n)) 27 310 true).run Tryz.prog w = .ok (.tuple #[.nilIface, .bool false]) w := run_typeAssert_lacksB Tryz.underlying310 (by kernel_rfl) (by kernel_rfl) _ _ _
theorem assertIsFault (p : Value) (w : World) : (Instr.typeAssert (.iface 103 p) 27 310 true).run Tryz.prog w = .ok (.tuple #[.nilIface, .bool false]) w := run_typeAssert_lacksB Tryz.underlying310 (by kernel_rfl) (by kernel_rfl) _ _ _
theorem assertUnNo (n : Int) (w : World) : (Instr.typeAssert (.iface 117 (.int .i64 n)) 27 171 true).run Tryz.prog w = .ok (.tuple #[.nilIface, .bool false]) w := run_typeAssert_lacksB Tryz.underlying171 (by kernel_rfl) (by kernel_rfl) _ _ _
theorem assertUnsNo (n : Int) (w : World) : (Instr.typeAssert (.iface 117 (.int .i64 n)) 27 307 true).run Tryz.prog w = .ok (.tuple #[.nilIface, .bool false]) w := run_typeAssert_lacksB Tryz.underlying307 (by kernel_rfl) (by kernel_rfl) _ _ _
theorem assertUnFault (p : Value) (w : World) : (Instr.typeAssert (.iface 103 p) 27 171 true).run Tryz.prog w = .ok (.tuple #[.iface 103 p, .bool true]) w := run_typeAssert_hasB Tryz.underlying171 (by kernel_rfl) _ _ _
theorem methodUnwrap (b : Nat) (w : World) : (Go.method 509 103 (.pointer (some ⟨b, 0, none⟩)) "Unwrap").run Tryz.prog w = .ok (343, .pointer (some ⟨b, 0, none⟩)) w := by kernel_rfl

theorem eqlNil (t : Nat) (v : Value) (w : World) : (binOp BinOp.eql 27 (.iface t v) .nilIface).run Tryz.prog w = .ok (.bool false) w := by kernel_rfl
theorem neqNil (t : Nat) (v : Value) (w : World) : (binOp BinOp.neq 27 (.iface t v) .nilIface).run Tryz.prog w = .ok (.bool true) w := by kernel_rfl
theorem typeOfNo (v : Value) (w : World) : (ReflectliteType.typeOf #[.iface 117 v]).run Tryz.prog w = .ok (.iface 300 (.agg #[.pointer (some ⟨3, 117, none⟩)])) w := by kernel_rfl
theorem methodComparable (h : Value) (w : World) : (Go.method 509 300 (.agg #[h]) "Comparable").run Tryz.prog w = .ok (352, .agg #[h]) w := by kernel_rfl
theorem comparableNo (w : World) : (ReflectliteType.method (fun t => do Rtype.noPackHeld "Comparable" t; (fun a : TypeInfo => Value.bool a.comparable) <$> typeInfo t) #[.agg #[.pointer (some ⟨3, 117, none⟩)]]).run Tryz.prog w = .ok (.bool true) w := by kernel_rfl
theorem ErrAt.iface {w : World} {e : EV} {v : Value} (h : ErrAt w e v) (hn : e.sound) : ∃ t u, v = .iface t u := by
  cases e with
  | nil => exact hn.elim
  | no n => exact ⟨_, _, h⟩
  | fault op key e => obtain ⟨b, ve, h1, _⟩ := h; exact ⟨_, _, h1⟩

set_option maxRecDepth 100000 in
set_option maxHeartbeats 2000000 in
/-- errors.is, at an error whose root is a number. -/
theorem is_any (c : Int) (e : EV) (v : Value) (w : World) (he : ErrAt w e v) (hn : e.sound) :
    Calls Tryz.prog 156 #[v, .iface 117 (.int .i64 c), .bool true] w fun r w' => r = .returned (.bool (isErr e c)) ∧ w = w' := by
  go_enter Tryz.func156, Tryz.ntmps156
  go_wp2
  go_loopg [0] (e.depth) (fun k t wr => ∃ e' : EV, e'.depth = k ∧ e'.sound ∧ ErrAt w e' t ∧ isErr e' c = isErr e c ∧ w = wr)
  case atStart => exact ⟨e, rfl, hn, he, rfl, rfl⟩
  case round =>
    obtain ⟨e', hd, hs, ha, hi, rfl⟩ := hrel
    have hd := hide hd
    have hI := hide hi
    clear hi
    cases e' with
    | nil => exact hs.elim
    | no n =>
      obtain rfl := ha
      have h1 := eqlNo n c
      have h2 := assertIsNo n
      have h3 := assertUnNo n
      have h4 := assertUnsNo n
      cases hb : (n == c)
      all_goals
        rw [hb] at h1
        have hB := hide hb
        clear hb
        go_wp2
        go_ret
        exact ⟨by rw [hI.out.symm.trans hB.out]; rfl, rfl⟩
    | fault op key e1 =>
      obtain ⟨b, ve, rfl, hb, ha1⟩ := ha
      obtain ⟨t', u', rfl⟩ := ha1.iface hs
      have h1 := eqlFault (.pointer (some ⟨b, 0, none⟩)) c
      have h2 := assertIsFault (.pointer (some ⟨b, 0, none⟩))
      have h3 := assertUnFault (.pointer (some ⟨b, 0, none⟩))
      have h4 := methodUnwrap b
      have h5 := eqlNil t' u'
      go_wp2_with (go_at_call 343; refine (unwrap_any b op key _ _ hb).mono ?_; rintro r w' ⟨rfl, rfl⟩)
      go_roundg e1.depth
      case measure => rw [← hd.out]; exact Nat.lt_succ_self _
      case rel => exact ⟨e1, rfl, hs, ha1, hI.out, rfl⟩

/-- errors.Is. -/
theorem Is_any (c : Int) (e : EV) (v : Value) (w : World) (he : ErrAt w e v) (hn : e.sound) :
    Calls Tryz.prog 62 #[v, .iface 117 (.int .i64 c)] w fun r w' => r = .returned (.bool (isErr e c)) ∧ w = w' := by
  obtain ⟨t', u', rfl⟩ := he.iface hn
  have h5 := eqlNil t' u'
  have h6 := eqlNil 117 (.int .i64 c)
  have h10 := @run_callFunc_extern Tryz.prog 155 _ ReflectliteType.typeOf Tryz.func155 (by kernel_rfl) (by kernel_rfl) (by kernel_rfl) (by kernel_rfl)
  have h11 := @run_callFunc_extern Tryz.prog 352 _ (ReflectliteType.method (fun t => do Rtype.noPackHeld "Comparable" t; pure (.bool (← typeInfo t).comparable))) Tryz.func352 (by kernel_rfl) (by kernel_rfl) (by kernel_rfl) (by kernel_rfl)
  have t1 := typeOfNo (.int .i64 c)
  have m1 := methodComparable
  have t2 := comparableNo
  go_enter Tryz.func62, Tryz.ntmps62
  go_wp2_with (go_at_call 156; refine (is_any c e _ _ he hn).mono ?_; rintro r w' ⟨rfl, rfl⟩)
  go_ret
  exact ⟨rfl, rfl⟩
end Go.Proofs.YtbbdimlpofjlfaaGreatDoor
/- The laws' Wraps: is an error a fault of that operation and key, that wraps the number; or, of 0, none? -/
namespace Go.Proofs.YtbbdimlpofjlfaaGreatDoor
open Go Go.RowKit

theorem as_sl {g w : World} {t : Nat} {F : List SProp} (e : Addr) (hg : Env g) (h : Holds g w (pts t (.cells #[.pointer none] 103) :: F)) :
    Calls Tryz.prog 61 #[.iface 103 (.pointer (some e)), .iface 140 (.pointer (some ⟨t, 0, none⟩))] w fun ev w' => ev = .returned (.bool true) ∧ Holds g w' (pts t (.cells #[.pointer (some e)] 103) :: F) := by
  refine (as_hit e ⟨t, 0, none⟩ (.pointer none) w (h.oldCell hg) (h.cell rfl) h.free).mono ?_
  rintro r w' ⟨rfl, rfl⟩
  exact ⟨rfl, h.alloc'.alloc'.alloc'.alloc'.setCell⟩

def wrapsB (e : EV) (op key : ByteArray) (code : Int) : Bool :=
  if code = 0 then (match e with | .nil => true | _ => false) else match e with | .fault o k e' => decide (o.toList = op.toList) && (decide (k.toList = key.toList) && isErr e' code) | _ => false

theorem Wraps_zero (e : EV) (v : Value) (op key : ByteArray) (w : World) (he : ErrAt w e v) :
    Calls Tryz.prog 39 #[v, .string op, .string key, .int .i64 0] w fun r w' => r = .returned (.bool (wrapsB e op key 0)) ∧ w = w' := by
  cases e with
  | nil =>
    obtain rfl := he
    go_enter Tryz.func39, Tryz.ntmps39
    go_wp2
    go_ret
    exact ⟨rfl, rfl⟩
  | no n =>
    obtain rfl := he
    go_enter Tryz.func39, Tryz.ntmps39
    go_wp2
    go_ret
    exact ⟨rfl, rfl⟩
  | fault o k e =>
    obtain ⟨b, ve, rfl, _⟩ := he
    go_enter Tryz.func39, Tryz.ntmps39
    go_wp2
    go_ret
    exact ⟨rfl, rfl⟩
theorem Wraps_nil (op key : ByteArray) (code : Int) (w : World) (hc : code ≠ 0) :
    Calls Tryz.prog 39 #[.nilIface, .string op, .string key, .int .i64 code] w fun r w' => r = .returned (.bool false) ∧ Keep w w' := by
  have hc : (code == 0) = false := by simpa using hc
  go_enter Tryz.func39, Tryz.ntmps39
  go_wp2
  go_ret
  exact ⟨rfl, (Keep.refl _).alloc⟩
set_option maxHeartbeats 1000000 in
theorem Wraps_fault (op key o k : ByteArray) (e : EV) (v : Value) (code : Int) (w : World) (hg : Env w) (hc : code ≠ 0) (he : ErrAt w (.fault o k e) v) (hs : e.sound) :
    Calls Tryz.prog 39 #[v, .string op, .string key, .int .i64 code] w fun r w' => r = .returned (.bool (wrapsB (.fault o k e) op key code)) ∧ Keep w w' := by
  have hn : wrapsB (.fault o k e) op key code = (decide (o.toList = op.toList) && (decide (k.toList = key.toList) && isErr e code)) := by simp [wrapsB, hc]
  rw [hn]
  clear hn
  have hc : (code == 0) = false := by simpa using hc
  have heH := hide he
  obtain ⟨b, ve, rfl, hb, -⟩ := he
  have hbH := hide hb
  clear hb
  have h0 := ((Holds.start w).alloc (o := .cells #[.pointer none] 103))
  have hH := hide h0
  clear h0
  by_cases ho : o.toList = op.toList <;> by_cases hk : k.toList = key.toList
  all_goals
    go_enter Tryz.func39, Tryz.ntmps39
    go_wp2_with (first
      | (go_at_call 61; refine (as_sl _ hg hH.out).mono ?_; rintro r w1 ⟨rfl, h1⟩
         have hc1 : w1.heap[b]? = some (.cells #[.string o, .string k, ve] 105) := h1.toKeep.block _ _ hbH.out
         have hc0 := h1.cell (off := 0) rfl
         have e0 : w1.cell? ⟨b, 0, none⟩ = some (.string o) := by simp [World.cell?, hc1]
         have e1 : w1.cell? ⟨b, 1, none⟩ = some (.string k) := by simp [World.cell?, hc1]
         have hK := hide h1.toKeep
         clear h1 hc1)
      | (go_at_call 62; refine (Is_any code _ _ _ (heH.out.keep hK.out) hs).mono ?_; rintro r w2 ⟨rfl, rfl⟩))
    go_ret
    exact ⟨by simp [ho, hk, isErr], hK.out⟩
theorem sound_no (n : Int) : (EV.no n).sound := trivial
theorem Env.of {g w : World} {L : List SProp} (hE : Env g) (h : Holds g w L) : Env w := h.oldCell hE
theorem Env.keep {g w : World} (hE : Env g) (h : Keep g w) : Env w := h.cell hE
theorem Wraps_hit (op key : ByteArray) (n : Int) (v : Value) (w : World) (hg : Env w) (hc : n ≠ 0) (he : ErrAt w (.fault op key (.no n)) v) :
    Calls Tryz.prog 39 #[v, .string op, .string key, .int .i64 n] w fun r w' => r = .returned (.bool true) ∧ Keep w w' := by
  have h := Wraps_fault op key op key (.no n) v n w hg hc he (sound_no n)
  simpa [wrapsB, isErr, hc] using h
end Go.Proofs.YtbbdimlpofjlfaaGreatDoor
