/- A region that draws its order, whose operations only read and whose callees keep all that was there (they may make memory of their own): walked once, in the text's order. -/
import Derived.Test.YtbbdimlpofjlfaaGreatDoorQSl
import Derived.BigQuiet
import Derived.Deep.QuietTactic
import Derived.Deep.RegionHeld3
import Derived.Test.YtbbdimlpofjlfaaGreatDoorQRow
import Derived.Laws.BytesArg
import Derived.Deep.RegionLaw
namespace Go.Proofs.YtbbdimlpofjlfaaGreatDoor
open Go Go.RowKit

/-- A world in which all of W is as it was. -/
structure KeptOf (W : World) where
  world : World
  keep : Keep W world
instance (W : World) : Inhabited (KeptOf W) := ⟨⟨W, Keep.refl W⟩⟩
theorem KeptOf.cell {W : World} (u : KeptOf W) {a : Addr} {v : Value} (h : W.cell? a = some v) : u.world.cell? a = some v := u.keep.cell h
theorem KeptOf.holds {g W : World} (u : KeptOf W) {L : List SProp} (h : Holds g W L) : Holds g u.world L := h.keep u.keep
theorem KeptOf.calls {P : Program} {W : World} {u : KeptOf W} {f : FuncId} {args : Array Value} {v : Value} (h : Calls P f args u.world fun e w' => e = .returned v ∧ Keep u.world w') :
    Calls P f args u.world fun e w'' => e = .returned v ∧ ∃ u' : KeptOf W, w'' = u'.world :=
  h.mono fun _ _ ⟨he, hk⟩ => ⟨he, ⟨_, u.keep.trans hk⟩, rfl⟩
theorem wp_region_kept {P : Program} {id : Nat} {Q : Exit → Act → World → Prop} {a : Act} {W : World} {l : List Oper} (hm : P.follows .mixedOrders = true) (hB : Region.lexB .any l.toArray = true)
    (h : wpQuiet P l.toArray (fun w' => ∃ u : KeptOf W, w' = u.world) (fun a' => ∀ w', (∃ u : KeptOf W, w' = u.world) → Q .normal a' w') l a) : (Code.region id l.toArray true).wp P Q a W :=
  wp_region_quiet (C := fun w' => ∃ u : KeptOf W, w' = u.world) hm hB ⟨⟨_, (Keep.refl W).drew⟩, rfl⟩ (by simpa using h)
end Go.Proofs.YtbbdimlpofjlfaaGreatDoor
/- Slices of bytes as texts. No program is named here. -/
namespace Go.Proofs.YtbbdimlpofjlfaaGreatDoor
open Go Go.RowKit

theorem RowAt.convert {P : Program} {w : World} {v : Value} {xs : List Int} (h : RowAt w v (xs.map (Value.int .u8))) {src e dst : TypeId} (hs : P.underlying src = some (.slice e)) (he : P.underlying e = some (.int .u8)) (hd : P.underlying dst = some .string) :
    (convert src dst v).run P w = .ok (.string (strOfNums xs)) w := by
  rcases h with ⟨rfl, hn⟩ | ⟨b, off, cap, rfl, h1, h2, h3⟩
  · obtain rfl : xs = [] := by cases xs <;> first | rfl | cases hn
    exact run_convert_bytes_nil w src e hs he 0 0 dst hd
  · refine run_convert_bytes_arg w src e hs he b off _ cap xs (by simp) (fun i hi => ?_) dst hd
    have hi' : i < xs.length := by simpa using hi
    refine h3 i _ ?_
    simp [List.getD, List.getElem?_eq_getElem hi']
end Go.Proofs.YtbbdimlpofjlfaaGreatDoor
/- Steps of a region that draws its order: make, append of any length, a call by its contract. No program is named here. -/
namespace Go.Proofs.YtbbdimlpofjlfaaGreatDoor
open Go Go.RowKit

section
variable {P : Program} {ops : Array Oper} {o : Oper} {a : Act} {w : World} {K : Act → World → Prop} {Q : Exit → Act → World → Prop} {E : Prop}
theorem step_make (hg : o.guard = none) (l c : Operand) (t : TypeId) (hop : o.op = Op.makeSlice t l c)
    (base : Nat) (e : TypeId) (i : TypeInfo) (z : Value) (size : Nat) (h1 : P.underlying t = some (.slice e)) (h2 : P.info? e = some i) (h3 : i.zero = some z) (h4 : i.size = size)
    (kl kc : IntKind) (L C : Int) (n : Nat) (hl : a.eval l = .int kl L) (hc : a.eval c = .int kc C) (hL : L = (n : Int)) (hC : C = (n : Int)) (b2 : i.bytes * n ≤ 281474976710656) (b3 : n ≤ maxLen) (b4 : base ≤ w.heap.size)
    (hK : ∀ w', w'.ownsRow base e size (.slice (some ⟨w.heap.size, 0, none⟩) n n) n (madeCells z.cells (n * size)).toList → w.grownBy w' none → K (a.put o.dst (.slice (some ⟨w.heap.size, 0, none⟩) n n)) w') :
    if Region.wanted o (yielded ops a.tmps) = true then Oper.wp P o a w K Q else E := by
  have hw : Region.wanted o (yielded ops a.tmps) = true := by simp [Region.wanted, hg]
  rw [if_pos hw]
  obtain ⟨w', hrun, r1, r2⟩ := run_make_full (P := P) w base t e i z size h1 h2 h3 h4 kl kc n b2 b3 b4
  subst hL
  subst hC
  unfold Oper.wp
  simp [execOp, hop, hl, hc, hrun, Result.andThen]
  exact hK w' r1 r2
theorem step_append_at (hg : o.guard = none) (s x : Operand) (t : TypeId) (hop : o.op = Op.call { callee := Callee.builtin Builtin.append, args := #[s, x], argTypes := #[t, t] })
    (base : Nat) (e : TypeId) (i : TypeInfo) (z : Value) (size bytes : Nat) (ht : P.underlying t = some (.slice e)) (hi : P.info? e = some i) (hz : i.zero = some z)
    (hsize : i.size = size) (hby : i.bytes = bytes) (hzs : z.cells.size = size) (hsz : 0 < size)
    (v : Value) (n : Nat) (xs : List Value) (hs : a.eval s = v) (hown : w.ownsRow base e size v n xs)
    (ad : Addr) (m c : Nat) (news : List Value) (hx : a.eval x = .slice (some ad) m c) (hl : news.length = m * size) (hnews : ∀ j u, news[j]? = some u → w.cell? (ad.add j) = some u) (h1 : ∀ u ∈ news, u.oneCell' = true)
    (h63 : n + m ≤ maxLen) (hbytes : (n + m) * bytes ≤ 140737488355328) (hbase : base ≤ w.heap.size)
    (hK : ∀ v' w', w'.ownsRow base e size v' (n + m) (xs ++ news) → w.grownBy w' v.ownBlock → (v'.ownBlock = v.ownBlock ∨ v'.ownBlock = some w.heap.size) → K (a.put o.dst v') w') :
    if Region.wanted o (yielded ops a.tmps) = true then Oper.wp P o a w K Q else E := by
  have hw : Region.wanted o (yielded ops a.tmps) = true := by simp [Region.wanted, hg]
  rw [if_pos hw]
  obtain ⟨v', w', hrun, r1, r2, _, r4⟩ := run_append_own_at (P := P) w base t o.type e i z size bytes ht hi hz hsize hby hzs hsz v n xs hown ad m c news hl hnews h1 h63 hbytes hbase
  unfold Oper.wp
  simp [execOp, hop, resolve, invoke, builtin, hs, hx, hrun, Result.andThen]
  exact hK v' w' r1 r2 r4
/-- An operation that yields by a run's equation. -/
theorem step_run (hg : o.guard = none) {v : Value} {w' : World} (h : (execOp a.eval o).run P w = .ok (.value v) w') (hK : K (a.put o.dst v) w') :
    if Region.wanted o (yielded ops a.tmps) = true then Oper.wp P o a w K Q else E := by
  have hw : Region.wanted o (yielded ops a.tmps) = true := by simp [Region.wanted, hg]
  rw [if_pos hw]
  unfold Oper.wp
  rw [h]
  exact hK
theorem step_append_none (hg : o.guard = none) (s x : Operand) (t : TypeId) (hop : o.op = Op.call { callee := Callee.builtin Builtin.append, args := #[s, x], argTypes := #[t, t] })
    (base : Nat) (e : TypeId) (i : TypeInfo) (size : Nat) (ht : P.underlying t = some (.slice e)) (hi : P.info? e = some i)
    (v : Value) (n : Nat) (xs : List Value) (hs : a.eval s = v) (hown : w.ownsRow base e size v n xs) (hx : a.eval x = .slice none 0 0)
    (hK : K (a.put o.dst v) w) :
    if Region.wanted o (yielded ops a.tmps) = true then Oper.wp P o a w K Q else E := by
  have hw : Region.wanted o (yielded ops a.tmps) = true := by simp [Region.wanted, hg]
  rw [if_pos hw]
  have hrun := run_append_owned_none (P := P) w base t o.type e i size ht hi v n xs hown
  unfold Oper.wp
  simp [execOp, hop, resolve, invoke, builtin, hs, hx, hrun, Result.andThen]
  exact hK
end
end Go.Proofs.YtbbdimlpofjlfaaGreatDoor
