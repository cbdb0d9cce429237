/- errors.As, errors.Is, (*api.Fault).Unwrap and the laws' Wraps, at errors that are nil, a number, or faults that wrap one another. -/
import Derived.Test.YtbbdimlpofjlfaaGreatDoorProg
import Derived.Test.YtbbdimlpofjlfaaGreatDoorQSl
import Derived.LaidEql
import Derived.Stop.Asserts
import Derived.RowKitTokens
namespace Go.Proofs.YtbbdimlpofjlfaaGreatDoor
open Go Go.RowKit Go.Extern.Stop Go.Stop Go.Extern

/-- An error: none, a number, or a fault that wraps one. -/
inductive EV where
  | nil
  | no (n : Int)
  | fault (op key : ByteArray) (e : EV)
/-- The error that a value is in a world. -/
def ErrAt (w : World) : EV → Value → Prop
  | .nil, v => v = .nilIface
  | .no n, v => v = .iface 117 (.int .i64 n)
  | .fault op key e, v => ∃ b ve, v = .iface 103 (.pointer (some ⟨b, 0, none⟩)) ∧ w.heap[b]? = some (.cells #[.string op, .string key, ve] 105) ∧ ErrAt w e ve
/-- The same, as an assertion. -/
def IsErr : EV → Value → SProp
  | .nil, v => fun _ => v = .nilIface
  | .no n, v => fun _ => v = .iface 117 (.int .i64 n)
  | .fault op key e, v => fun h => ∃ b ve, v = .iface 103 (.pointer (some ⟨b, 0, none⟩)) ∧ Sat [pts b (.cells #[.string op, .string key, ve] 105), IsErr e ve] h
theorem ErrAt.keep {w w' : World} (k : Keep w w') : ∀ {e : EV} {v : Value}, ErrAt w e v → ErrAt w' e v
  | .nil, _, h => h
  | .no _, _, h => h
  | .fault _ _ _, _, ⟨b, ve, h1, h2, h3⟩ => ⟨b, ve, h1, k.block _ _ h2, h3.keep k⟩
theorem Holds.errAt {g w : World} : ∀ {e : EV} {v : Value} {F : List SProp}, Holds g w (IsErr e v :: F) → ErrAt w e v
  | .nil, _, _, h => (Holds.unfact (p := _) (Q := fun _ => True) (h.head fun _ h => ⟨h, trivial⟩)).1
  | .no _, _, _, h => (Holds.unfact (p := _) (Q := fun _ => True) (h.head fun _ h => ⟨h, trivial⟩)).1
  | .fault op key e, v, F, h => by
    obtain ⟨b, h⟩ := h.unex
    obtain ⟨ve, h⟩ := h.unex
    obtain ⟨h1, h⟩ := h.unfact
    have h := Holds.unall h
    exact ⟨b, ve, h1, h.block, Holds.errAt h.p1⟩

/-- A fault over a number, or over nothing, as it is made. -/
theorem Holds.mkErr {g w : World} {b : Nat} {op key : ByteArray} {n : Int} {v : Value} {L : List SProp} (hv : v = .iface 117 (.int .i64 n)) (h : Holds g w (pts b (.cells #[.string op, .string key, v] 105) :: L)) :
    Holds g w (IsErr (.fault op key (.no n)) (.iface 103 (.pointer (some ⟨b, 0, none⟩))) :: L) :=
  h.head fun x hx => ⟨b, v, rfl, x, fun _ => none, fun _ => .inr rfl, by funext i; simp only [Frag.add]; cases x i <;> rfl, hx, fun _ => none, fun _ => none, fun _ => .inl rfl, by funext i; rfl, hv, trivial⟩
/-- A fault over an error that is there. -/
theorem Holds.wrapErr {g w : World} {b : Nat} {op key : ByteArray} {e : EV} {v : Value} {L : List SProp} (h : Holds g w (pts b (.cells #[.string op, .string key, v] 105) :: IsErr e v :: L)) :
    Holds g w (IsErr (.fault op key e) (.iface 103 (.pointer (some ⟨b, 0, none⟩))) :: L) := by
  have h' : Holds g w (All [pts b (.cells #[.string op, .string key, v] 105), IsErr e v] :: L) := Holds.all h
  exact h'.head fun x hx => ⟨b, v, rfl, hx⟩
theorem as_nil (t : Value) (w : World) :
    Calls Tryz.prog 61 #[.nilIface, t] w fun e w' => e = .returned (.bool false) ∧ w = w' := by
  go_enter Tryz.func61, Tryz.ntmps61
  go_wp2
  go_ret
  exact ⟨rfl, rfl⟩

/-! ### Closed facts on the model's entries for internal/reflectlite (after the kit's ToyasAs) -/
theorem valueOfPP (t : Addr) (w : World) : (ReflectliteValue.unpack (.iface 140 (.pointer (some t)))).run Tryz.prog w
    = .ok (.agg #[.pointer (some ⟨3, 140, none⟩), .pointer (some ⟨w.heap.size, 0, none⟩), .int .u64 150]) (w.alloc (.cells #[.pointer (some t)] 140)) := by kernel_rfl
theorem typePP (a : Addr) (w : World) : (ReflectliteValue.methodAny (ReflectliteValue.valueError "reflectlite.Value.Type" 0) (fun t _ _ _ => ReflectliteType.toType t) #[.agg #[.pointer (some ⟨3, 140, none⟩), .pointer (some a), .int .u64 150]]).run Tryz.prog w
    = .ok (.iface 300 (.agg #[.pointer (some ⟨3, 140, none⟩)])) w := by kernel_rfl
theorem methodKind (h : Value) (w : World) : (Go.method 509 300 (.agg #[h]) "Kind").run Tryz.prog w = .ok (288, h) w := by kernel_rfl
theorem kindPP (w : World) : ((ReflectliteType.abiMethod fun t => (fun a : Nat => Value.int IntKind.u8 (a : Int)) <$> Rtype.kind t) #[.pointer (some ⟨3, 140, none⟩)]).run Tryz.prog w = .ok (.int .u8 22) w := by kernel_rfl
theorem kindP (w : World) : ((ReflectliteType.abiMethod fun t => (fun a : Nat => Value.int IntKind.u8 (a : Int)) <$> Rtype.kind t) #[.pointer (some ⟨3, 103, none⟩)]).run Tryz.prog w = .ok (.int .u8 22) w := by kernel_rfl
theorem rlm (z : Sem Value) (f : TypeId → Addr → Nat → Nat → Sem Value) (v : Value) :
    ReflectliteValue.method z f #[v] = (do match ← ReflectliteValue.parts v with | none => z | some (t, a, fl) => f t a fl (fl % 32)) := rfl
theorem partsPP (a : Addr) (w : World) : (ReflectliteValue.parts (.agg #[.pointer (some ⟨3, 140, none⟩), .pointer (some a), .int .u64 150])).run Tryz.prog w = .ok (some (140, a, 150)) w := by kernel_rfl
theorem isNilPP (a p : Addr) (W : World) (ha : W.cell? a = some (.pointer (some p))) :
    (ReflectliteValue.method (ReflectliteValue.valueError "reflectlite.Value.IsNil" 0) ReflectliteValue.isNil #[.agg #[.pointer (some ⟨3, 140, none⟩), .pointer (some a), .int .u64 150]]).run Tryz.prog W = .ok (.bool false) W := by
  rw [rlm]
  simp only [Sem.run_bind, partsPP, Result.andThen]
  simp [ReflectliteValue.isNil, loadVar, isAgg, underlying, Tryz.underlying140, ha, Result.andThen]
theorem methodElem (h : Value) (w : World) : (Go.method 509 300 (.agg #[h]) "Elem").run Tryz.prog w = .ok (353, .agg #[h]) w := by kernel_rfl
theorem methodImplements (h : Value) (w : World) : (Go.method 509 300 (.agg #[h]) "Implements").run Tryz.prog w = .ok (354, .agg #[h]) w := by kernel_rfl
theorem methodAssignableTo (h : Value) (w : World) : (Go.method 509 300 (.agg #[h]) "AssignableTo").run Tryz.prog w = .ok (351, .agg #[h]) w := by kernel_rfl
theorem elemPP (w : World) : (ReflectliteType.method ReflectliteType.elem #[.agg #[.pointer (some ⟨3, 140, none⟩)]]).run Tryz.prog w = .ok (.iface 300 (.agg #[.pointer (some ⟨3, 103, none⟩)])) w := by kernel_rfl
theorem implementsP (w : World) : (ReflectliteType.relation "Implements" ReflectliteType.implements_ #[.agg #[.pointer (some ⟨3, 103, none⟩)], .iface 300 (.agg #[.pointer (some ⟨3, 27, none⟩)])]).run Tryz.prog w = .ok (.bool true) w := by kernel_rfl
theorem typeOfP (v : Value) (w : World) : (ReflectliteType.typeOf #[.iface 103 v]).run Tryz.prog w = .ok (.iface 300 (.agg #[.pointer (some ⟨3, 103, none⟩)])) w := by kernel_rfl
theorem assignableP (w : World) : (ReflectliteType.relation "AssignableTo" ReflectliteType.assignableTo #[.agg #[.pointer (some ⟨3, 103, none⟩)], .iface 300 (.agg #[.pointer (some ⟨3, 103, none⟩)])]).run Tryz.prog w = .ok (.bool true) w := by kernel_rfl
theorem valueOfP (e : Addr) (w : World) : (ReflectliteValue.unpack (.iface 103 (.pointer (some e)))).run Tryz.prog w
    = .ok (.agg #[.pointer (some ⟨3, 103, none⟩), .pointer (some ⟨w.heap.size, 0, none⟩), .int .u64 150]) (w.alloc (.cells #[.pointer (some e)] 103)) := by kernel_rfl
theorem elemOfPP (w : World) : (Rtype.elem? 140).run Tryz.prog w = .ok (some 103) w := by kernel_rfl
theorem mkP (p : Addr) (w : World) : (ReflectliteValue.mk 103 p ReflectliteValue.flagAddr).run Tryz.prog w = .ok (.agg #[.pointer (some ⟨3, 103, none⟩), .pointer (some p), .int .u64 406]) w := by kernel_rfl
theorem elemVPP (a p : Addr) (W : World) (ha : W.cell? a = some (.pointer (some p))) :
    (ReflectliteValue.method (ReflectliteValue.valueError "reflectlite.Value.Elem" 0) ReflectliteValue.elem #[.agg #[.pointer (some ⟨3, 140, none⟩), .pointer (some a), .int .u64 150]]).run Tryz.prog W
      = .ok (.agg #[.pointer (some ⟨3, 103, none⟩), .pointer (some p), .int .u64 406]) W := by
  rw [rlm]
  simp only [Sem.run_bind, partsPP, Result.andThen]
  simp [ReflectliteValue.elem, loadVar, isAgg, underlying, Tryz.underlying140, ha, Result.andThen, elemOfPP, mkP]
theorem rls (v x : Value) : ReflectliteValue.set #[v, x] = (do
    let (some (dst, a, fl), some (src, b, _)) := (← ReflectliteValue.parts v, ← ReflectliteValue.parts x)
      | unsupported (.noEntry "extern/(internal/reflectlite.Value).Set.zeroValue")
    if fl / ReflectliteValue.flagAddr % 2 == 0 then unsupported (.noEntry "extern/(internal/reflectlite.Value).Set.unaddressable")
    let val ← loadVar src b
    if ← Rtype.directlyAssignable dst src then storeVar dst a val
    else if ← Rtype.implements dst src then
      if (← Rtype.kind src) == 20 then
        match val with
        | .nilIface => unsupported (.noEntry "extern/reflectlite: a nil value of one interface type handed on as a value of another")
        | _ => storeVar dst a val
      else storeVar dst a (.iface src val)
    else panicString ("reflectlite.Set: value of type " ++ (← Rtype.spelt src) ++ " is not assignable to type " ++ (← Rtype.spelt dst))
    pure (.tuple #[])) := rfl
theorem partsPa (a : Addr) (w : World) : (ReflectliteValue.parts (.agg #[.pointer (some ⟨3, 103, none⟩), .pointer (some a), .int .u64 406])).run Tryz.prog w = .ok (some (103, a, 406)) w := by kernel_rfl
theorem partsP (a : Addr) (w : World) : (ReflectliteValue.parts (.agg #[.pointer (some ⟨3, 103, none⟩), .pointer (some a), .int .u64 150])).run Tryz.prog w = .ok (some (103, a, 150)) w := by kernel_rfl
theorem directP (w : World) : (Rtype.directlyAssignable 103 103).run Tryz.prog w = .ok true w := by kernel_rfl
theorem setP (ta b e : Addr) (old : Value) (W : World) (hb : W.cell? b = some (.pointer (some e))) (ht : W.cell? ta = some old) (hf : W.frozen? ta = false) :
    (ReflectliteValue.set #[.agg #[.pointer (some ⟨3, 103, none⟩), .pointer (some ta), .int .u64 406], .agg #[.pointer (some ⟨3, 103, none⟩), .pointer (some b), .int .u64 150]]).run Tryz.prog W
      = .ok (.tuple #[]) (W.setCell ta (.pointer (some e))) := by
  rw [rls]
  simp only [Sem.run_bind, partsPa, partsP, Result.andThen]
  simp [ReflectliteValue.flagAddr, loadVar, isAgg, underlying, Tryz.underlying103, hb, Result.andThen, directP, storeVar, Value.cells, storeCells, Addr.add]
  rw [run_store Tryz.prog W ta _ _ (by rfl)]
  simp [ht, hf]

/-- The one variable that errors.As reads. -/
def Env (g : World) : Prop := g.cell? ⟨0, 0, none⟩ = some (.iface 300 (.agg #[.pointer (some ⟨3, 27, none⟩)]))

set_option maxHeartbeats 4000000 in
theorem as_hit (e t : Addr) (old : Value) (w : World) (hg : Env w) (ht0 : w.cell? t = some old) (hf0 : w.frozen? t = false) :
    Calls Tryz.prog 61 #[.iface 103 (.pointer (some e)), .iface 140 (.pointer (some t))] w fun ev w' => ev = .returned (.bool true) ∧ ((((w.alloc (.cells #[.pointer (some t)] 140)).alloc (.cells #[.pointer (some ⟨3, 140, none⟩), .pointer (some ⟨w.heap.size, 0, none⟩), .int .u64 150] 224)).alloc (.cells #[.pointer (some ⟨3, 140, none⟩), .pointer (some ⟨w.heap.size, 0, none⟩), .int .u64 150] 224)).alloc (.cells #[.pointer (some e)] 103)).setCell t (.pointer (some e)) = w' := by
  unfold Env at hg
  have h6 := @run_callFunc_extern Tryz.prog 151 _ (fun args => ReflectliteValue.unpack (args.getD 0 (.tuple #[]))) Tryz.func151 (by kernel_rfl) (by kernel_rfl) (by kernel_rfl) (by kernel_rfl)
  have h7 := @run_callFunc_extern Tryz.prog 152 _ (ReflectliteValue.methodAny (ReflectliteValue.valueError "reflectlite.Value.Type" 0) (fun t _ _ _ => ReflectliteType.toType t)) Tryz.func152 (by kernel_rfl) (by kernel_rfl) (by kernel_rfl) (by kernel_rfl)
  have h8 := @run_callFunc_extern Tryz.prog 153 _ (ReflectliteValue.method (ReflectliteValue.valueError "reflectlite.Value.IsNil" 0) ReflectliteValue.isNil) Tryz.func153 (by kernel_rfl) (by kernel_rfl) (by kernel_rfl) (by kernel_rfl)
  have h27 := @run_callFunc_extern Tryz.prog 288 _ (ReflectliteType.abiMethod fun t => do pure (.int .u8 (← Rtype.kind t))) Tryz.func288 (by kernel_rfl) (by kernel_rfl) (by kernel_rfl) (by kernel_rfl)
  have h37 := @run_callFunc_extern Tryz.prog 353 _ (ReflectliteType.method ReflectliteType.elem) Tryz.func353 (by kernel_rfl) (by kernel_rfl) (by kernel_rfl) (by kernel_rfl)
  have h38 := @run_callFunc_extern Tryz.prog 354 _ (ReflectliteType.relation "Implements" ReflectliteType.implements_) Tryz.func354 (by kernel_rfl) (by kernel_rfl) (by kernel_rfl) (by kernel_rfl)
  have h10 := @run_callFunc_extern Tryz.prog 155 _ ReflectliteType.typeOf Tryz.func155 (by kernel_rfl) (by kernel_rfl) (by kernel_rfl) (by kernel_rfl)
  have h35 := @run_callFunc_extern Tryz.prog 351 _ (ReflectliteType.relation "AssignableTo" ReflectliteType.assignableTo) Tryz.func351 (by kernel_rfl) (by kernel_rfl) (by kernel_rfl) (by kernel_rfl)
  have h11 := @run_callFunc_extern Tryz.prog 218 _ (ReflectliteValue.method (ReflectliteValue.valueError "reflectlite.Value.Elem" 0) ReflectliteValue.elem) Tryz.func218 (by kernel_rfl) (by kernel_rfl) (by kernel_rfl) (by kernel_rfl)
  have h12 := @run_callFunc_extern Tryz.prog 219 _ ReflectliteValue.set Tryz.func219 (by kernel_rfl) (by kernel_rfl) (by kernel_rfl) (by kernel_rfl)
  have tO := typeOfP
  have mA := methodAssignableTo
  have a25 := assignableP
  have v25 := valueOfP
  have f6 := valueOfPP
  have f7 := typePP
  have mK := methodKind
  have mE := methodElem
  have mI := methodImplements
  have k27 := kindPP
  have k25 := kindP
  have e27 := elemPP
  have i25 := implementsP
  have n8 := isNilPP ⟨w.heap.size, 0, none⟩ t ((w.alloc (.cells #[.pointer (some t)] 140)).alloc (.cells #[.pointer (some ⟨3, 140, none⟩), .pointer (some ⟨w.heap.size, 0, none⟩), .int .u64 150] 224)) (by simp)
  have hlt : 0 < w.heap.size := World.block_lt_of_cell? w _ hg
  have hg2 : ((w.alloc (.cells #[.pointer (some t)] 140)).alloc (.cells #[.pointer (some ⟨3, 140, none⟩), .pointer (some ⟨w.heap.size, 0, none⟩), .int .u64 150] 224)).cell? ⟨0, 0, none⟩ = some (.iface 300 (.agg #[.pointer (some ⟨3, 27, none⟩)])) := by
    rw [World.cell?_alloc_lt _ _ ⟨0, 0, none⟩ (by rw [World.size_alloc]; exact Nat.lt_succ_of_lt hlt), World.cell?_alloc_lt _ _ ⟨0, 0, none⟩ hlt]; exact hg
  have htl : t.block < w.heap.size := World.block_lt_of_cell? w _ ht0
  have el := elemVPP ⟨w.heap.size, 0, none⟩ t (((w.alloc (.cells #[.pointer (some t)] 140)).alloc (.cells #[.pointer (some ⟨3, 140, none⟩), .pointer (some ⟨w.heap.size, 0, none⟩), .int .u64 150] 224)).alloc (.cells #[.pointer (some ⟨3, 140, none⟩), .pointer (some ⟨w.heap.size, 0, none⟩), .int .u64 150] 224)) (by rw [World.cell?_alloc_lt _ _ ⟨w.heap.size, 0, none⟩ (by simp; omega)]; simp)
  have st := setP t ⟨w.heap.size + 1 + 1 + 1, 0, none⟩ e old ((((w.alloc (.cells #[.pointer (some t)] 140)).alloc (.cells #[.pointer (some ⟨3, 140, none⟩), .pointer (some ⟨w.heap.size, 0, none⟩), .int .u64 150] 224)).alloc (.cells #[.pointer (some ⟨3, 140, none⟩), .pointer (some ⟨w.heap.size, 0, none⟩), .int .u64 150] 224)).alloc (.cells #[.pointer (some e)] 103))
    (by rw [World.cell?_alloc_at _ _ _ _ (by simp)]; rfl)
    (by rw [World.cell?_alloc_lt _ _ t (by simp; omega), World.cell?_alloc_lt _ _ t (by simp; omega), World.cell?_alloc_lt _ _ t (by simp; omega), World.cell?_alloc_lt _ _ t htl]; exact ht0)
    (by rw [World.frozen?_alloc_old _ _ t (by simp; omega), World.frozen?_alloc_old _ _ t (by simp; omega), World.frozen?_alloc_old _ _ t (by simp; omega), World.frozen?_alloc_old _ _ t (Nat.ne_of_lt htl)]; exact hf0)
  go_enter Tryz.func61, Tryz.ntmps61
  go_wp2
  refine wp_loop_rounds 1 ?_
  rw [rounds_succ]
  go_wp2
  go_ret
  exact ⟨rfl, rfl⟩
end Go.Proofs.YtbbdimlpofjlfaaGreatDoor
