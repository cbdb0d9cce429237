/- From a walk of a law, at whatever arguments that are shaped as their types ask, to the given statement. -/
import Derived.Test.YtbbdimlpofjlfaaGreatDoorCards
import Derived.Test.YtbbdimlpofjlfaaGreatDoorTie
import Derived.Test.YtbbdimlpofjlfaaGreatDoorQErr
import Derived.ProofKit
import Derived.OpenShut
import Derived.Deep.DeepHandedRow
import Derived.LaidHandle
namespace Go.Proofs.YtbbdimlpofjlfaaGreatDoor
open Go.ChangeShapes Go.WideShapes Go.ChangeAt Go.RowKit

/-! ### What a reading tells of the cells -/
def Shp (P : Program) (w : World) : Nat → TypeId → List Value → Prop
  | 0, _, _ => False
  | n + 1, t, cs =>
    match P.underlying t with
    | some .bool => ∃ b, cs = [.bool b]
    | some (.int k) => ∃ x, cs = [.int k x] ∧ (Lit.int k x).wf = true
    | some .string => ∃ s, cs = [.string s] ∧ s.size ≤ maxLen
    | some (.slice e) => cs = [.slice none 0 0] ∨ ∃ a len cap, cs = [.slice (some a) len cap] ∧ len ≤ cap ∧ cap ≤ maxLen ∧
        ∀ i, i < len → ∃ cs', w.cells? 0 (a.add (i * P.cellsOf e)) (P.cellsOf e) = some cs' ∧ Shp P w n e cs'
    | some (.struct fs) => cs.length = P.cellsOf t ∧ ∀ f, f ∈ fs.toList → Shp P w n f.type ((cs.drop f.offset).take (P.cellsOf f.type))
    | some (.array m e) => cs.length = P.cellsOf t ∧ ∀ i, i < m → Shp P w n e ((cs.drop (i * P.cellsOf e)).take (P.cellsOf e))
    | _ => True

theorem mapM_some_mem {α β : Type} {f : α → Option β} : ∀ {l : List α} {r : List β}, l.mapM f = some r → ∀ x, x ∈ l → ∃ y, f x = some y
  | [], _, _, _, h => by cases h
  | a :: l, r, h, x, hx => by
    rw [List.mapM_cons] at h
    cases ha : f a with
    | none => simp [ha] at h
    | some b =>
      cases hl : l.mapM f with
      | none => simp [ha, hl] at h
      | some bs =>
        rcases List.mem_cons.1 hx with rfl | hx
        · exact ⟨b, ha⟩
        · exact mapM_some_mem hl x hx

theorem shp_of_trod {H : Type} {enc : TypeId × Value → H} {P : Program} {w : World} {sp : Nat → Bool} {held : Bool} : ∀ (n : Nat) (t : TypeId) (cs : List Value) (x : DataW H × List MemPlace),
    DataW.trod enc P w 0 sp held n t cs = some x → Shp P w n t cs
  | 0, _, _, _, h => by simp [DataW.trod] at h
  | n + 1, t, cs, x, h => by
    have ih := fun t cs x => shp_of_trod (enc := enc) (P := P) (w := w) (sp := sp) (held := held) n t cs x
    unfold DataW.trod at h
    unfold Shp
    cases hu : P.underlying t with
    | none => trivial
    | some d =>
      rw [hu] at h
      cases d with
      | bool =>
        dsimp only at h ⊢
        split at h <;> first | (cases h; done) | (rename_i hq; cases hq)
        exact ⟨_, rfl⟩
      | int k =>
        dsimp only at h ⊢
        split at h <;> first | (cases h; done) | (rename_i hq; cases hq)
        split at h
        · rename_i hc
          obtain ⟨rfl, hw⟩ := hc
          exact ⟨_, rfl, hw⟩
        · cases h
      | string =>
        dsimp only at h ⊢
        split at h <;> first | (cases h; done) | (rename_i hq; cases hq)
        split at h
        · exact ⟨_, rfl, by assumption⟩
        · cases h
      | slice e =>
        dsimp only at h ⊢
        split at h <;> first | (cases h; done) | (rename_i hq; cases hq)
        · exact .inl rfl
        · rename_i a len cap
          refine .inr ⟨a, len, cap, rfl, ?_⟩
          split at h
          · rename_i hc
            refine ⟨hc.2.1, hc.2.2, fun i hi => ?_⟩
            obtain ⟨elems, he, _⟩ := Option.bind_eq_some_iff.1 h
            obtain ⟨y, hy⟩ := mapM_some_mem he i (List.mem_range.2 hi)
            obtain ⟨cs', hcs, hy'⟩ := Option.bind_eq_some_iff.1 hy
            exact ⟨cs', hcs, ih _ _ _ hy'⟩
          · cases h
      | struct fs =>
        dsimp only at h ⊢
        split at h
        · rename_i hc
          refine ⟨hc, fun f hf => ?_⟩
          obtain ⟨xs, hx, _⟩ := Option.map_eq_some_iff.1 h
          obtain ⟨y, hy⟩ := mapM_some_mem hx f hf
          exact ih _ _ _ hy
        · cases h
      | array m e =>
        dsimp only at h ⊢
        split at h
        · rename_i hc
          refine ⟨hc, fun i hi => ?_⟩
          obtain ⟨xs, hx, _⟩ := Option.map_eq_some_iff.1 h
          obtain ⟨y, hy⟩ := mapM_some_mem hx i (List.mem_range.2 hi)
          exact ih _ _ _ hy
        · cases h
      | _ => trivial

/-- An argument that is shaped as its type asks. -/
def Arg (P : Program) (w : World) (t : TypeId) (v : Value) : Prop := (∃ n, Shp P w n t v.cells.toList) ∧ ∃ base, Value.okWide P w .any base t v
/-- Arguments that are shaped as their types ask. -/
def ArgsOk (P : Program) (w : World) : List TypeId → List Value → Prop
  | [], [] => True
  | t :: ts, v :: vs => Arg P w t v ∧ ArgsOk P w ts vs
  | _, _ => False
theorem argsOk_of_trod {H : Type} {enc : TypeId × Value → H} {P : Program} {w : World} {base : Nat} : ∀ {ts : List TypeId} {vs : List Value} {ds : List (DataW H)} {ps : List MemPlace},
    DataW.TrodAll enc P w 0 (fun _ => true) true ts vs ds ps → (∀ (j : Nat) t v, ts[j]? = some t → vs[j]? = some v → Value.okWide P w .any base t v) → ArgsOk P w ts vs
  | [], [], [], _, _, _ => trivial
  | _ :: _, _ :: _, _ :: _, _, ⟨_, _, ⟨n, h⟩, hr, _⟩, hv => ⟨⟨⟨n, shp_of_trod n _ _ _ h⟩, base, hv 0 _ _ rfl rfl⟩, argsOk_of_trod hr fun j t v h1 h2 => hv (j + 1) t v h1 h2⟩

section
variable {P : Program} {w : World} {t : TypeId} {v : Value}
theorem arg_int {k : IntKind} (ht : P.underlying t = some (.int k)) (h : Arg P w t v) : ∃ x, v = .int k x ∧ (Lit.int k x).wf = true := by
  obtain ⟨⟨n, hs⟩, base, hv⟩ := h
  obtain ⟨x, rfl⟩ := okWide_int ht hv
  cases n with
  | zero => exact hs.elim
  | succ n =>
    unfold Shp at hs
    rw [ht] at hs
    obtain ⟨y, e, hw⟩ := hs
    obtain rfl : x = y := by simpa [Value.cells] using e
    exact ⟨x, rfl, hw⟩
theorem arg_bool (ht : P.underlying t = some .bool) (h : Arg P w t v) : ∃ x, v = .bool x := by
  obtain ⟨_, base, hv⟩ := h
  exact okWide_bool ht hv
theorem arg_string (ht : P.underlying t = some .string) (h : Arg P w t v) : ∃ s, v = .string s ∧ s.size ≤ maxLen := by
  obtain ⟨⟨n, hs⟩, base, hv⟩ := h
  obtain ⟨s, rfl⟩ := okWide_string ht hv
  cases n with
  | zero => exact hs.elim
  | succ n =>
    unfold Shp at hs
    rw [ht] at hs
    obtain ⟨y, e, hw⟩ := hs
    obtain rfl : s = y := by simpa [Value.cells] using e
    exact ⟨s, rfl, hw⟩
theorem shp_int {n : Nat} {k : IntKind} {cs : List Value} (ht : P.underlying t = some (.int k)) (h : Shp P w n t cs) : ∃ x, cs = [.int k x] ∧ (Lit.int k x).wf = true := by
  cases n with
  | zero => exact h.elim
  | succ n => unfold Shp at h; rw [ht] at h; exact h
theorem shp_bool {n : Nat} {cs : List Value} (ht : P.underlying t = some .bool) (h : Shp P w n t cs) : ∃ x, cs = [.bool x] := by
  cases n with
  | zero => exact h.elim
  | succ n => unfold Shp at h; rw [ht] at h; exact h
theorem shp_string {n : Nat} {cs : List Value} (ht : P.underlying t = some .string) (h : Shp P w n t cs) : ∃ s, cs = [.string s] ∧ s.size ≤ maxLen := by
  cases n with
  | zero => exact h.elim
  | succ n => unfold Shp at h; rw [ht] at h; exact h
theorem shp_array {n m : Nat} {e : TypeId} {cs : List Value} (ht : P.underlying t = some (.array m e)) (h : Shp P w n t cs) : cs.length = P.cellsOf t ∧ ∃ n', ∀ i, i < m → Shp P w n' e ((cs.drop (i * P.cellsOf e)).take (P.cellsOf e)) := by
  cases n with
  | zero => exact h.elim
  | succ n => unfold Shp at h; rw [ht] at h; exact ⟨h.1, n, h.2⟩
theorem shp_struct {n : Nat} {fs : Array Field} {cs : List Value} (ht : P.underlying t = some (.struct fs)) (h : Shp P w n t cs) : cs.length = P.cellsOf t ∧ ∃ n', ∀ f, f ∈ fs.toList → Shp P w n' f.type ((cs.drop f.offset).take (P.cellsOf f.type)) := by
  cases n with
  | zero => exact h.elim
  | succ n => unfold Shp at h; rw [ht] at h; exact ⟨h.1, n, h.2⟩
theorem shp_slice {n : Nat} {e : TypeId} {cs : List Value} (ht : P.underlying t = some (.slice e)) (h : Shp P w n t cs) : cs = [.slice none 0 0] ∨ ∃ a len cap n', cs = [.slice (some a) len cap] ∧ len ≤ cap ∧ cap ≤ maxLen ∧
        ∀ i, i < len → ∃ cs', w.cells? 0 (a.add (i * P.cellsOf e)) (P.cellsOf e) = some cs' ∧ Shp P w n' e cs' := by
  cases n with
  | zero => exact h.elim
  | succ n =>
    unfold Shp at h; rw [ht] at h
    rcases h with h | ⟨a, len, cap, h1, h2, h3, h4⟩
    · exact .inl h
    · exact .inr ⟨a, len, cap, n, h1, h2, h3, h4⟩
theorem arg_array {m : Nat} {e : TypeId} (ht : P.underlying t = some (.array m e)) (h : Arg P w t v) : ∃ cs : Array Value, v = .agg cs ∧ ∃ n, Shp P w n t cs.toList := by
  obtain ⟨⟨n, hs⟩, base, hv⟩ := h
  unfold Value.okWide at hv
  rw [ht] at hv
  obtain ⟨cs, rfl, _⟩ := hv
  exact ⟨cs, rfl, n, hs⟩
theorem arg_struct {fs : Array Field} (ht : P.underlying t = some (.struct fs)) (h : Arg P w t v) : ∃ cs : Array Value, v = .agg cs ∧ ∃ n, Shp P w n t cs.toList := by
  obtain ⟨⟨n, hs⟩, base, hv⟩ := h
  obtain ⟨cs, rfl, _⟩ := okWide_struct ht hv
  exact ⟨cs, rfl, n, hs⟩
theorem arg_slice {e : TypeId} (ht : P.underlying t = some (.slice e)) (h : Arg P w t v) : v = .slice none 0 0 ∨ ∃ a len cap n', v = .slice (some a) len cap ∧ len ≤ cap ∧ cap ≤ maxLen ∧
        ∀ i, i < len → ∃ cs', w.cells? 0 (a.add (i * P.cellsOf e)) (P.cellsOf e) = some cs' ∧ Shp P w n' e cs' := by
  obtain ⟨⟨n, hs⟩, base, hv⟩ := h
  obtain ⟨a, len, cap, rfl⟩ := okWide_slice ht hv
  rcases shp_slice ht hs with h | ⟨a', len', cap', n', h1, h2⟩
  · exact .inl (by simpa [Value.cells] using h)
  · simp only [Value.cells, List.cons.injEq, Value.slice.injEq, and_true] at h1
    obtain ⟨rfl, rfl, rfl⟩ := h1
    exact .inr ⟨a', len, cap, n', rfl, h2⟩
theorem args_nil {vs : List Value} (h : ArgsOk P w [] vs) : vs = [] := by
  cases vs with
  | nil => rfl
  | cons v vs => exact h.elim
theorem args_cons {ts : List TypeId} {vs : List Value} (h : ArgsOk P w (t :: ts) vs) : ∃ v vs', vs = v :: vs' ∧ Arg P w t v ∧ ArgsOk P w ts vs' := by
  cases vs with
  | nil => exact h.elim
  | cons v vs => exact ⟨v, vs, rfl, h.1, h.2⟩
end
theorem i64_bounds {x : Int} (h : (Lit.int .i64 x).wf = true) : -9223372036854775808 ≤ x ∧ x ≤ 9223372036854775807 := by
  have e1 : IntKind.min .i64 = -9223372036854775808 := rfl
  have e2 : IntKind.max .i64 = 9223372036854775807 := rfl
  simp only [Lit.wf, Bool.and_eq_true, decide_eq_true_eq, e1, e2] at h
  exact h
theorem u64_bounds {x : Int} (h : (Lit.int .u64 x).wf = true) : 0 ≤ x ∧ x ≤ 18446744073709551615 := by
  have e1 : IntKind.min .u64 = 0 := rfl
  have e2 : IntKind.max .u64 = 18446744073709551615 := rfl
  simp only [Lit.wf, Bool.and_eq_true, decide_eq_true_eq, e1, e2] at h
  exact h
theorem trodAll_below {H : Type} {enc : TypeId × Value → H} {P : Program} (hl : laidOutB P = true) {W W' : World} (hb : Below W.heap.size W W') : ∀ {ts : List TypeId} {vs : List Value} {ds : List (DataW H)} {ps : List MemPlace},
    (∀ t, t ∈ ts → P.readableRec t = true ∧ t < P.types.size) → DataW.TrodAll enc P W 0 (fun _ => true) true ts vs ds ps → (∀ x, x ∈ ps → x.block < W.heap.size) →
    DataW.TrodAll enc P W' 0 (fun b => decide (b < W.heap.size)) true ts vs ds ps
  | [], [], [], _, _, h, _ => h
  | t :: ts, v :: vs, d :: ds, ps, hr, ⟨p, q, h, hq, e⟩, hp => by
    subst e
    exact ⟨p, q, Below.trod hl (hr t List.mem_cons_self).1 (hr t List.mem_cons_self).2 h hb (fun x hx => hp x (List.mem_append_left _ hx)),
      trodAll_below hl hb (fun t ht => hr t (List.mem_cons_of_mem _ ht)) hq (fun x hx => hp x (List.mem_append_right _ hx)), rfl⟩

theorem own : ownKnob Tryz.prog.godebug = none := by kernel_rfl
theorem laidOut : laidOutB Tryz.prog = true := by kernel_rfl
theorem etG : Tryz.prog.globalNamed "errors.errorType" = some 0 := by kernel_rfl
theorem rtT : (Tryz.prog.cutTypes.find? (·.1 == "internal/reflectlite.rtype")).map (·.2) = some 300 := by kernel_rfl
theorem oneRow : ((List.range 409).filter fun t => Tryz.prog.rowNamed t [101, 114, 114, 111, 114]) = [27] := by kernel_rfl
theorem typesSize : Tryz.prog.types.size = 409 := by kernel_rfl

/-- What the row's list gives: the variable's cell. -/
theorem env_of_laid {W : World} (h : laidMetH Tryz.prog [("errors.errorType", Rows.laid_errors_errorType)] W) : Env W := by
  have h' : laidMet Tryz.prog [] W ∧ handlesMet Tryz.prog [("errors.errorType", Rows.laid_errors_errorType)] W := h
  obtain ⟨name, u, ty, e1, e2, e3, e4, e5⟩ := h'.2 _ (List.mem_singleton.2 rfl)
  have en : name = [101, 114, 114, 111, 114] := (Option.some.inj e1).symm
  subst en
  obtain rfl := Option.some.inj (rtT.symm.trans e2)
  have hm : ty ∈ (List.range 409).filter fun t => Tryz.prog.rowNamed t [101, 114, 114, 111, 114] := List.mem_filter.2 ⟨List.mem_range.2 (by rw [← typesSize]; exact e3), e4⟩
  rw [oneRow] at hm
  obtain rfl := List.mem_singleton.1 hm
  have hh : typeHandle Tryz.prog 27 = .pointer (some ⟨3, 27, none⟩) := by kernel_rfl
  rw [hh] at e5
  unfold Env
  simpa using World.var?_cell etG e5 0

/-- A world for the witness. -/
noncomputable def laidWorld (os : Os) : World :=
  let w0 := World.holding Tryz.prog os ⟨#[], #[], []⟩
  { w0 with heap := w0.heap.modify 0 fun
      | .cells _ t frozen => .cells #[.iface 300 (.agg #[.pointer (some ⟨3, 27, none⟩)])] t frozen
      | o => o }
theorem laidWorld_met (os : Os) (args : Array Value) : laidMetH Tryz.prog [("errors.errorType", Rows.laid_errors_errorType)] ((laidWorld os).forCall (fun _ _ => 0) ⟨#[], args, []⟩).memory :=
  laidMetH_of_parts (laidMet_nil _ _) (by kernel_rfl)

/-- What a walk must show of a law. -/
def LawAt (f : FuncId) (fn : Func) : Prop := ∀ (W : World) (args : Array Value), Env W → ArgsOk Tryz.prog W fn.params.toList args.toList →
  Calls Tryz.prog f args W fun e w' => e = .returned (.bool true) ∧ Holds W w' []

set_option maxRecDepth 100000 in
theorem law_post {f : FuncId} {fn : Func} {s : ChangeSpec} (hv : s.vars = []) (hr : fn.resultTypes = #[4]) (hs : ∀ (H : Type) (ds : List (DataW H)), ds.length = fn.params.size → s.fn H ds = { results := [.lit (.bool true)], args := ds })
    (hp : ∀ t, t ∈ fn.params.toList → Tryz.prog.readableRec t = true ∧ t < Tryz.prog.types.size) (law : LawAt f fn)
    {H : Type} {enc : TypeId × Value → H} {W : World} {args : Array Value} {ds gs : List (DataW H)} {before : List MemPlace}
    (hE : Env W) {base : Nat} (hval : ∀ (j : Nat) t v, fn.params[j]? = some t → args[j]? = some v → Value.okWide Tryz.prog W .any base t v) (hW : DataW.Whole enc Tryz.prog fn.params.toList s.vars false W args.toList ds gs before) :
    Calls Tryz.prog f args W fun e W' => ∃ v, e = .returned v ∧ s.post enc Tryz.prog fn false true false false W args v W' := by
  have hW' := hW
  obtain ⟨p, q, hA, hV, rfl, hfz, hnd⟩ := hW
  rw [hv] at hV
  have hgq : gs = [] ∧ q = [] := by
    cases gs with
    | nil => exact ⟨rfl, hV⟩
    | cons g r => exact absurd hV (by intro h; cases h)
  obtain ⟨rfl, rfl⟩ := hgq
  have hlen : ∀ {ts : List TypeId} {vs : List Value} {ds : List (DataW H)} {ps : List MemPlace}, DataW.TrodAll enc Tryz.prog W 0 (fun _ => true) true ts vs ds ps → ds.length = ts.length := by
    intro ts
    induction ts with
    | nil => intro vs ds ps h; cases vs <;> cases ds <;> first | rfl | cases h
    | cons t ts ih =>
      intro vs ds ps h
      cases vs with
      | nil => cases h
      | cons v vs =>
        cases ds with
        | nil => cases h
        | cons d ds => obtain ⟨p, q, _, hq, _⟩ := h; simp [ih hq]
  have hl : (ds ++ []).length = fn.params.size := by rw [List.append_nil, hlen hA]; simp
  refine (law W args hE (argsOk_of_trod hA fun j t v h1 h2 => hval j t v (Array.getElem?_toList.symm.trans h1) (Array.getElem?_toList.symm.trans h2))).mono fun e W' ⟨he, hh⟩ => ?_
  subst he
  have hlt : ∀ x, x ∈ p ++ [] → x.block < W.heap.size := fun x hx => hW'.lt x hx
  refine ⟨_, rfl, ds, [], p ++ [], [], p ++ [], [], hW', ?_, ?_, ?_, ?_, fun h => by cases h⟩
  · rw [hs H _ hl, hr]
    exact trodAll_mk1 (shut_bool Tryz.underlying4 true)
  · rw [hs H _ hl]
    rw [List.append_nil, List.append_nil] at *
    exact trodAll_below laidOut hh.below hp hA hlt
  · rw [hs H _ hl, hv]; rfl
  · exact hh.below.frame _
end Go.Proofs.YtbbdimlpofjlfaaGreatDoor
