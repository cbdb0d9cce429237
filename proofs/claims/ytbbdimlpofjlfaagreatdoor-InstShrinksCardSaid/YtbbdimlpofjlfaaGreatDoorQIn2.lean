/- An instance in memory: Request, Count, Weight. -/
import Derived.Test.YtbbdimlpofjlfaaGreatDoorQIn1
import Derived.Test.YtbbdimlpofjlfaaGreatDoorQLn7
import Derived.Test.YtbbdimlpofjlfaaGreatDoorQLn9
import Derived.Stop.Asserts
import Derived.Test.YtbbdimlpofjlfaaGreatDoorQErrIs
namespace Go.Proofs.YtbbdimlpofjlfaaGreatDoor
open Go Go.RowKit

def In.req (x : In) (t : Tape) (k : ByteArray) : In × Tape × Stp :=
  (⟨(x.c.req t k).1, x.n + 1, if (x.c.req t k).2.2.hit then x.h + 1 else x.h⟩, (x.c.req t k).2.1, (x.c.req t k).2.2)
set_option maxRecDepth 100000
set_option maxHeartbeats 2000000
theorem In_Count {g w : World} {b tb : Nat} {x : In} {F : List SProp} (h : Holds g w (IsIn b tb x :: F)) :
    Calls Tryz.prog 16 #[.pointer (some ⟨b, 0, none⟩)] w fun r w' => r = .returned (.tuple #[.int .i64 x.n, .int .i64 x.h]) ∧ Keep w w' := by
  obtain ⟨v, h⟩ := h.isIn
  obtain ⟨c0, c1, c2, -⟩ := inc h
  obtain ⟨c, n, hh⟩ := x
  dsimp only at c1 c2 ⊢
  clear h
  go_enter Tryz.func16, Tryz.ntmps16
  go_wp2
  go_quiet (fail)
  go_wp2
  go_ret2
  exact ⟨rfl, (Keep.refl _).drewN⟩
/-- The cache is asked. -/
theorem Ca_ask {g W : World} {tb : Nat} {v : Value} {c : Ca} {t : Tape} {F : List SProp} (h : Holds g W (IsCa tb v c :: IsTape tb t :: F)) (k : ByteArray) (i : Nat) (hf : c.Fit i) (hi : i < 90000) (ht : tOk t) :
    (∃ pb, v = ifP pb ∧ Calls Tryz.prog 316 #[.pointer (some ⟨pb, 0, none⟩), .string k] W fun r w' => r = .returned (stepV (c.req t k).2.2) ∧ Holds g w' (IsCa tb v (c.req t k).1 :: IsTape tb (c.req t k).2.1 :: F)) ∨
    (∃ pb, v = ifL pb ∧ Calls Tryz.prog 302 #[.pointer (some ⟨pb, 0, none⟩), .string k] W fun r w' => r = .returned (stepV (c.req t k).2.2) ∧ Holds g w' (IsCa tb v (c.req t k).1 :: IsTape tb (c.req t k).2.1 :: F)) := by
  cases c with
  | pol n p =>
    left
    obtain ⟨pb, hv, H⟩ := h.caPol
    subst hv
    refine ⟨pb, rfl, (Pol_RequestAny H k i _ hf.1 (by omega) (by have := hf.2; omega)).mono ?_⟩
    rintro r w1 ⟨hr, h1⟩
    exact ⟨hr, Holds.toCaPol (Pol.req_most p k) h1⟩
  | arc s =>
    left
    obtain ⟨pb, hv, H⟩ := h.caArc
    subst hv
    refine ⟨pb, rfl, (PolA_Request H k (by have : s.size ≤ i := hf.1; omega) (by have : s.p ≤ s.most := hf.2.1; have : s.most ≤ 16777216 := hf.2.2; omega)).mono ?_⟩
    rintro r w1 ⟨hr, h1⟩
    exact ⟨hr, Holds.toCaArc (Arc.req_most s k) h1⟩
  | ln s =>
    right
    obtain ⟨pb, hv, H⟩ := h.caLn
    subst hv
    have h' : Holds g W (IsLn pb tb { s with tape := t } :: IsTape tb ({ s with tape := t } : Ln).tape :: F) := H
    refine ⟨pb, rfl, (Ln_Request h' k i (Ln.Fit.setTape (s := { s with tape := [] }) hf.1 ht) hi hf.2).mono ?_⟩
    rintro r w1 ⟨hr, h1⟩
    exact ⟨hr, Holds.toCaLn h1⟩
theorem In_Request {g w : World} {b tb : Nat} {x : In} {t : Tape} {F : List SProp} (h : Holds g w (IsIn b tb x :: IsTape tb t :: F)) (k : ByteArray) (i : Nat) (hf : x.c.Fit i) (hi : i < 90000) (ht : tOk t) (hn : 0 ≤ x.n ∧ x.n < 1000000000 ∧ 0 ≤ x.h ∧ x.h < 1000000000) :
    Calls Tryz.prog 15 #[.pointer (some ⟨b, 0, none⟩), .string k] w fun r w' => r = .returned (stepV (x.req t k).2.2) ∧ Holds g w' (IsIn b tb (x.req t k).1 :: IsTape tb (x.req t k).2.1 :: F) := by
  obtain ⟨v, h⟩ := h.isIn
  obtain ⟨⟨c', t', ⟨hit, y, out⟩⟩, hr⟩ : ∃ r, x.c.req t k = r := ⟨_, rfl⟩
  have e1 : IntKind.i64.wrap (x.n + 1) = x.n + 1 := IntWalk.i64_in _ (by omega)
  have e2 : IntKind.i64.wrap (x.h + 1) = x.h + 1 := IntWalk.i64_in _ (by omega)
  unfold In.req
  rw [hr]
  obtain ⟨c, n, hh⟩ := x
  dsimp only at hr e1 e2 hf hn h ⊢
  obtain ⟨r4, hr4⟩ : ∃ r4, w.heap.size = r4 := ⟨_, rfl⟩
  have HA := h.alloc (o := .cells #[.bool false, .string ⟨#[]⟩, .bool false] 34)
  rw [hr4] at HA
  obtain ⟨c0, -⟩ := inc (Holds.p1 HA)
  have HB : Holds g _ (IsCa tb v c :: IsTape tb t :: pts b (.cells (inCells v ⟨c, n, hh⟩) 107) :: pts r4 (.cells #[.bool false, .string ⟨#[]⟩, .bool false] 34) :: F) := HA.p1.p3.p3
  have hq := Ca_ask HB k i hf hi ht
  rw [hr] at hq
  dsimp only [stepV] at hq ⊢
  clear h HA HB hf hi ht hn
  rcases hq with ⟨pb, rfl, cM⟩ | ⟨pb, rfl, cM⟩
  · unfold ifP at c0
    replace cM := hide cM
    replace hr := hide hr
    go_enter Tryz.func15, Tryz.ntmps15
    go_upto_region 2 with (go_at_call 316; (try simp only [hr4]); (with_reducible refine cM.out.mono ?_); rintro r w1 ⟨rfl, h1⟩; have h1 := hide h1)
    obtain ⟨r5, hr5⟩ : ∃ r5, w1.heap.size = r5 := ⟨_, rfl⟩
    have HC := h1.out.alloc (o := .cells #[.bool hit, .string y, .bool out] 34)
    rw [hr5] at HC
    simp only [hr5]
    clear hr4 cM c0
    generalize (w1.alloc (.cells #[.bool hit, .string y, .bool out] 34)) = W2 at HC ⊢
    clear hr5 h1
    obtain ⟨_, c1, _, f1, _⟩ := inc (Holds.p3 HC)
    have H3 := setAt (Holds.p3 HC) (off := 1) (v := .int .i64 (n + 1)) (cs' := inCells (ifP pb) ⟨c', n + 1, hh⟩) rfl
    dsimp only at c1
    replace HC := hide HC
    go_upto_region 3 with fail
    generalize (W2.setCell ⟨b, 1, none⟩ (.int .i64 (n + 1))) = W3 at H3 ⊢
    clear c1 f1 HC
    obtain ⟨_, _, c2, _, f2⟩ := inc H3
    dsimp only at c2
    obtain ⟨t0, t1, t2⟩ := cells3 (Holds.p1 H3)
    obtain ⟨z0, z1, z2⟩ := cells3 (Holds.p4 H3)
    obtain ⟨g0, g1, g2⟩ := free3 (Holds.p4 H3)
    cases hit with
    | false =>
      have HR := put3 (Holds.p4 H3) (.bool false) (.string y) (.bool out)
      replace H3 := hide H3
      go_wp2
      refine bodyPost_ret (ret_step rfl HR rfl) rfl ?_
      exact ⟨rfl, Holds.toIn (x := ⟨c', n + 1, hh⟩) (HR.drop.p1.drop)⟩
    | true =>
      have H4 := setAt H3 (off := 2) (v := .int .i64 (hh + 1)) (cs' := inCells (ifP pb) ⟨c', n + 1, hh + 1⟩) rfl
      go_upto_region 5 with fail
      generalize (W3.setCell ⟨b, 2, none⟩ (.int .i64 (hh + 1))) = W4 at H4 ⊢
      clear H3 t0 t1 t2 z0 z1 z2 g0 g1 g2 c2 f2
      obtain ⟨t0, t1, t2⟩ := cells3 (Holds.p1 H4)
      obtain ⟨z0, z1, z2⟩ := cells3 (Holds.p4 H4)
      obtain ⟨g0, g1, g2⟩ := free3 (Holds.p4 H4)
      have HR := put3 (Holds.p4 H4) (.bool true) (.string y) (.bool out)
      replace H4 := hide H4
      go_wp2
      refine bodyPost_ret (ret_step rfl HR rfl) rfl ?_
      exact ⟨rfl, Holds.toIn (x := ⟨c', n + 1, hh + 1⟩) (HR.drop.p1.drop)⟩
  · unfold ifL at c0
    replace cM := hide cM
    replace hr := hide hr
    go_enter Tryz.func15, Tryz.ntmps15
    go_upto_region 2 with (go_at_call 302; (try simp only [hr4]); (with_reducible refine cM.out.mono ?_); rintro r w1 ⟨rfl, h1⟩; have h1 := hide h1)
    obtain ⟨r5, hr5⟩ : ∃ r5, w1.heap.size = r5 := ⟨_, rfl⟩
    have HC := h1.out.alloc (o := .cells #[.bool hit, .string y, .bool out] 34)
    rw [hr5] at HC
    simp only [hr5]
    clear hr4 cM c0
    generalize (w1.alloc (.cells #[.bool hit, .string y, .bool out] 34)) = W2 at HC ⊢
    clear hr5 h1
    obtain ⟨_, c1, _, f1, _⟩ := inc (Holds.p3 HC)
    have H3 := setAt (Holds.p3 HC) (off := 1) (v := .int .i64 (n + 1)) (cs' := inCells (ifL pb) ⟨c', n + 1, hh⟩) rfl
    dsimp only at c1
    replace HC := hide HC
    go_upto_region 3 with fail
    generalize (W2.setCell ⟨b, 1, none⟩ (.int .i64 (n + 1))) = W3 at H3 ⊢
    clear c1 f1 HC
    obtain ⟨_, _, c2, _, f2⟩ := inc H3
    dsimp only at c2
    obtain ⟨t0, t1, t2⟩ := cells3 (Holds.p1 H3)
    obtain ⟨z0, z1, z2⟩ := cells3 (Holds.p4 H3)
    obtain ⟨g0, g1, g2⟩ := free3 (Holds.p4 H3)
    cases hit with
    | false =>
      have HR := put3 (Holds.p4 H3) (.bool false) (.string y) (.bool out)
      replace H3 := hide H3
      go_wp2
      refine bodyPost_ret (ret_step rfl HR rfl) rfl ?_
      exact ⟨rfl, Holds.toIn (x := ⟨c', n + 1, hh⟩) (HR.drop.p1.drop)⟩
    | true =>
      have H4 := setAt H3 (off := 2) (v := .int .i64 (hh + 1)) (cs' := inCells (ifL pb) ⟨c', n + 1, hh + 1⟩) rfl
      go_upto_region 5 with fail
      generalize (W3.setCell ⟨b, 2, none⟩ (.int .i64 (hh + 1))) = W4 at H4 ⊢
      clear H3 t0 t1 t2 z0 z1 z2 g0 g1 g2 c2 f2
      obtain ⟨t0, t1, t2⟩ := cells3 (Holds.p1 H4)
      obtain ⟨z0, z1, z2⟩ := cells3 (Holds.p4 H4)
      obtain ⟨g0, g1, g2⟩ := free3 (Holds.p4 H4)
      have HR := put3 (Holds.p4 H4) (.bool true) (.string y) (.bool out)
      replace H4 := hide H4
      go_wp2
      refine bodyPost_ret (ret_step rfl HR rfl) rfl ?_
      exact ⟨rfl, Holds.toIn (x := ⟨c', n + 1, hh + 1⟩) (HR.drop.p1.drop)⟩
end Go.Proofs.YtbbdimlpofjlfaaGreatDoor
/- An instance in memory: Weight, New. -/
namespace Go.Proofs.YtbbdimlpofjlfaaGreatDoor
open Go Go.RowKit

set_option maxRecDepth 100000
set_option maxHeartbeats 2000000
theorem In_Weight {g w : World} {b tb : Nat} {x : In} {F : List SProp} (h : Holds g w (IsIn b tb x :: F)) (m : Nat) (d : Bool) (hd : x.c.weight = (m, d)) :
    Calls Tryz.prog 41 #[.pointer (some ⟨b, 0, none⟩)] w fun r w' => r = .returned (.tuple #[.int .u64 (m : Nat), .bool d]) ∧ Keep w w' := by
  obtain ⟨v, h⟩ := h.isIn
  obtain ⟨c0, -⟩ := inc h
  obtain ⟨c, n, hh⟩ := x
  cases c with
  | pol kn p =>
    obtain ⟨pb, hv, h⟩ := h.p1.caPol
    subst hv
    obtain ⟨rfl, rfl⟩ := Prod.mk.injEq .. ▸ hd
    unfold ifP at c0
    have hta : ∀ w : World, (Instr.typeAssert (.iface 100 (.pointer (some ⟨pb, 0, none⟩))) 96 144 true).run Tryz.prog w = .ok (.tuple #[.nilIface, .bool false]) w := fun _ => run_typeAssert_lacksB Tryz.underlying144 (by kernel_rfl) (by kernel_rfl) _ _ _
    clear h
    go_enter Tryz.func41, Tryz.ntmps41
    go_wp2
    go_ret2
    exact ⟨rfl, Keep.refl _⟩
  | arc s =>
    obtain ⟨pb, hv, h⟩ := h.p1.caArc
    subst hv
    obtain ⟨rfl, rfl⟩ := Prod.mk.injEq .. ▸ hd
    unfold ifP at c0
    have hta : ∀ w : World, (Instr.typeAssert (.iface 100 (.pointer (some ⟨pb, 0, none⟩))) 96 144 true).run Tryz.prog w = .ok (.tuple #[.nilIface, .bool false]) w := fun _ => run_typeAssert_lacksB Tryz.underlying144 (by kernel_rfl) (by kernel_rfl) _ _ _
    clear h
    go_enter Tryz.func41, Tryz.ntmps41
    go_wp2
    go_ret2
    exact ⟨rfl, Keep.refl _⟩
  | ln s =>
    obtain ⟨pb, hv, h⟩ := h.p1.caLn
    subst hv
    obtain ⟨rfl, rfl⟩ := Prod.mk.injEq .. ▸ hd
    have cM := hide (Ln_Weight h _ rfl)
    unfold ifL at c0
    have hta : ∀ w : World, (Instr.typeAssert (.iface 97 (.pointer (some ⟨pb, 0, none⟩))) 96 144 true).run Tryz.prog w = .ok (.tuple #[.iface 97 (.pointer (some ⟨pb, 0, none⟩)), .bool true]) w := fun _ => run_typeAssert_hasB Tryz.underlying144 (by kernel_rfl) _ _ _
    clear h
    go_enter Tryz.func41, Tryz.ntmps41
    go_wp2_with (go_at_call 305; (with_reducible refine cM.out.mono ?_); rintro r w1 ⟨rfl, rfl⟩)
    go_ret2
    exact ⟨rfl, Keep.refl _⟩
/-- New, of each kind. -/
theorem In_New0 {g w : World} {F : List SProp} {tb : Nat} (m : Nat) (hm : m ≤ 16777216) (lane : Nat) (h : Holds g w F) :
    Calls Tryz.prog 12 #[.int .i64 0, .int .i64 (m : Nat), .pointer (some ⟨tb, 0, none⟩), .int .i64 (lane : Nat)] w fun r w' => ∃ b, r = .returned (.tuple #[.pointer (some ⟨b, 0, none⟩), .nilIface]) ∧ Holds g w' (IsIn b tb ⟨Ca.new 0 m lane, 0, 0⟩ :: F) := by
  have cN := hide (Pol_New_lru h m hm)
  clear h
  go_enter Tryz.func12, Tryz.ntmps12
  go_wp2_with (go_at_call 44; (with_reducible refine cN.out.mono ?_); rintro r w1 ⟨pb, rfl, h1⟩; have h1 := hide h1)
  go_ret2
  have H := (Holds.toCaPol (tb := tb) (p := .lru ⟨m, []⟩) rfl h1.out).alloc (o := .cells #[ifP pb, .int .i64 0, .int .i64 0] 107)
  exact ⟨_, rfl, Holds.toIn (x := ⟨Ca.new 0 m lane, 0, 0⟩) H⟩
theorem In_New1 {g w : World} {F : List SProp} {tb : Nat} (m : Nat) (hm : m ≤ 16777216) (lane : Nat) (h : Holds g w F) :
    Calls Tryz.prog 12 #[.int .i64 1, .int .i64 (m : Nat), .pointer (some ⟨tb, 0, none⟩), .int .i64 (lane : Nat)] w fun r w' => ∃ b, r = .returned (.tuple #[.pointer (some ⟨b, 0, none⟩), .nilIface]) ∧ Holds g w' (IsIn b tb ⟨Ca.new 1 m lane, 0, 0⟩ :: F) := by
  have cN := hide (Pol_New_lfu h m hm)
  clear h
  go_enter Tryz.func12, Tryz.ntmps12
  go_wp2_with (go_at_call 44; (with_reducible refine cN.out.mono ?_); rintro r w1 ⟨pb, rfl, h1⟩; have h1 := hide h1)
  go_ret2
  have H := (Holds.toCaPol (tb := tb) (p := .lfu ⟨m, 0, false, [], 0⟩) rfl h1.out).alloc (o := .cells #[ifP pb, .int .i64 0, .int .i64 0] 107)
  exact ⟨_, rfl, Holds.toIn (x := ⟨Ca.new 1 m lane, 0, 0⟩) H⟩
theorem In_New2 {g w : World} {F : List SProp} {tb : Nat} (m : Nat) (hm : m ≤ 16777216) (lane : Nat) (h : Holds g w F) :
    Calls Tryz.prog 12 #[.int .i64 2, .int .i64 (m : Nat), .pointer (some ⟨tb, 0, none⟩), .int .i64 (lane : Nat)] w fun r w' => ∃ b, r = .returned (.tuple #[.pointer (some ⟨b, 0, none⟩), .nilIface]) ∧ Holds g w' (IsIn b tb ⟨Ca.new 2 m lane, 0, 0⟩ :: F) := by
  have cN := hide (Pol_New_cr h m hm)
  clear h
  go_enter Tryz.func12, Tryz.ntmps12
  go_wp2_with (go_at_call 44; (with_reducible refine cN.out.mono ?_); rintro r w1 ⟨pb, rfl, h1⟩; have h1 := hide h1)
  go_ret2
  have H := (Holds.toCaPol (tb := tb) (p := .lfu ⟨m, 0, true, [], 0⟩) rfl h1.out).alloc (o := .cells #[ifP pb, .int .i64 0, .int .i64 0] 107)
  exact ⟨_, rfl, Holds.toIn (x := ⟨Ca.new 2 m lane, 0, 0⟩) H⟩
theorem In_New3 {g w : World} {F : List SProp} {tb : Nat} (m : Nat) (hm : m ≤ 16777216) (lane : Nat) (h : Holds g w F) :
    Calls Tryz.prog 12 #[.int .i64 3, .int .i64 (m : Nat), .pointer (some ⟨tb, 0, none⟩), .int .i64 (lane : Nat)] w fun r w' => ∃ b, r = .returned (.tuple #[.pointer (some ⟨b, 0, none⟩), .nilIface]) ∧ Holds g w' (IsIn b tb ⟨Ca.new 3 m lane, 0, 0⟩ :: F) := by
  have cN := hide (Pol_New_sr h m hm)
  clear h
  go_enter Tryz.func12, Tryz.ntmps12
  go_wp2_with (go_at_call 44; (with_reducible refine cN.out.mono ?_); rintro r w1 ⟨pb, rfl, h1⟩; have h1 := hide h1)
  go_ret2
  have H := (Holds.toCaPol (tb := tb) (p := .sr ⟨m, m / 2, [], [], [], []⟩) rfl h1.out).alloc (o := .cells #[ifP pb, .int .i64 0, .int .i64 0] 107)
  exact ⟨_, rfl, Holds.toIn (x := ⟨Ca.new 3 m lane, 0, 0⟩) H⟩
theorem In_New4 {g w : World} {F : List SProp} {tb : Nat} (m : Nat) (hm : m ≤ 16777216) (lane : Nat) (h : Holds g w F) :
    Calls Tryz.prog 12 #[.int .i64 4, .int .i64 (m : Nat), .pointer (some ⟨tb, 0, none⟩), .int .i64 (lane : Nat)] w fun r w' => ∃ b, r = .returned (.tuple #[.pointer (some ⟨b, 0, none⟩), .nilIface]) ∧ Holds g w' (IsIn b tb ⟨Ca.new 4 m lane, 0, 0⟩ :: F) := by
  have cN := hide (PolA_New h m hm)
  clear h
  go_enter Tryz.func12, Tryz.ntmps12
  go_wp2_with (go_at_call 44; (with_reducible refine cN.out.mono ?_); rintro r w1 ⟨pb, rfl, h1⟩; have h1 := hide h1)
  go_ret2
  have H := (Holds.toCaArc (tb := tb) (s := Arc.new m) rfl h1.out).alloc (o := .cells #[ifP pb, .int .i64 0, .int .i64 0] 107)
  exact ⟨_, rfl, Holds.toIn (x := ⟨Ca.new 4 m lane, 0, 0⟩) H⟩
theorem In_New5 {g w : World} {F : List SProp} {tb : Nat} (m : Nat) (hm : m ≤ 16777216) (lane : Nat) (h : Holds g w F) :
    Calls Tryz.prog 12 #[.int .i64 5, .int .i64 (m : Nat), .pointer (some ⟨tb, 0, none⟩), .int .i64 (lane : Nat)] w fun r w' => ∃ b, r = .returned (.tuple #[.pointer (some ⟨b, 0, none⟩), .nilIface]) ∧ Holds g w' (IsIn b tb ⟨Ca.new 5 m lane, 0, 0⟩ :: F) := by
  have cN := hide (Ln_New_5 (tb := tb) m hm lane h)
  clear h
  go_enter Tryz.func12, Tryz.ntmps12
  go_wp2_with (go_at_call 43; (with_reducible refine cN.out.mono ?_); rintro r w1 ⟨pb, rfl, h1⟩; have h1 := hide h1)
  go_ret2
  have H := (Holds.toCaLn h1.out).alloc (o := .cells #[ifL pb, .int .i64 0, .int .i64 0] 107)
  exact ⟨_, rfl, Holds.toIn (x := ⟨Ca.new 5 m lane, 0, 0⟩) H⟩
theorem In_New6 {g w : World} {F : List SProp} {tb : Nat} (m : Nat) (hm : m ≤ 16777216) (lane : Nat) (h : Holds g w F) :
    Calls Tryz.prog 12 #[.int .i64 6, .int .i64 (m : Nat), .pointer (some ⟨tb, 0, none⟩), .int .i64 (lane : Nat)] w fun r w' => ∃ b, r = .returned (.tuple #[.pointer (some ⟨b, 0, none⟩), .nilIface]) ∧ Holds g w' (IsIn b tb ⟨Ca.new 6 m lane, 0, 0⟩ :: F) := by
  have cN := hide (Ln_New_6 (tb := tb) m hm lane h)
  clear h
  go_enter Tryz.func12, Tryz.ntmps12
  go_wp2_with (go_at_call 43; (with_reducible refine cN.out.mono ?_); rintro r w1 ⟨pb, rfl, h1⟩; have h1 := hide h1)
  go_ret2
  have H := (Holds.toCaLn h1.out).alloc (o := .cells #[ifL pb, .int .i64 0, .int .i64 0] 107)
  exact ⟨_, rfl, Holds.toIn (x := ⟨Ca.new 6 m lane, 0, 0⟩) H⟩
theorem In_New {g w : World} {F : List SProp} {tb : Nat} (kind : Nat) (hk : kind < 7) (m : Nat) (hm : m ≤ 16777216) (lane : Nat) (h : Holds g w F) :
    Calls Tryz.prog 12 #[.int .i64 (kind : Nat), .int .i64 (m : Nat), .pointer (some ⟨tb, 0, none⟩), .int .i64 (lane : Nat)] w fun r w' => ∃ b, r = .returned (.tuple #[.pointer (some ⟨b, 0, none⟩), .nilIface]) ∧ Holds g w' (IsIn b tb ⟨Ca.new kind m lane, 0, 0⟩ :: F) := by
  have key : kind = 0 ∨ kind = 1 ∨ kind = 2 ∨ kind = 3 ∨ kind = 4 ∨ kind = 5 ∨ kind = 6 := by omega
  rcases key with rfl | rfl | rfl | rfl | rfl | rfl | rfl
  · exact In_New0 m hm lane h
  · exact In_New1 m hm lane h
  · exact In_New2 m hm lane h
  · exact In_New3 m hm lane h
  · exact In_New4 m hm lane h
  · exact In_New5 m hm lane h
  · exact In_New6 m hm lane h
end Go.Proofs.YtbbdimlpofjlfaaGreatDoor
/- An instance in memory: what New refuses; the law's Faulty. -/
namespace Go.Proofs.YtbbdimlpofjlfaaGreatDoor
open Go Go.RowKit

set_option maxRecDepth 100000
set_option maxHeartbeats 2000000
theorem unwrap_f (b : Nat) (op key : ByteArray) (ve : Value) (w : World) (hb : w.heap[b]? = some (.cells #[.string op, .string key, ve] 105)) :
    Calls Tryz.prog 48 #[.iface 103 (.pointer (some ⟨b, 0, none⟩))] w fun e w' => e = .returned ve ∧ Keep w w' := by
  have c2 : w.cell? ⟨b, 2, none⟩ = some ve := by simp [World.cell?, hb]
  have hta : ∀ w : World, (Instr.typeAssert (.iface 103 (.pointer (some ⟨b, 0, none⟩))) 27 171 true).run Tryz.prog w = .ok (.tuple #[.iface 103 (.pointer (some ⟨b, 0, none⟩)), .bool true]) w := fun w => assertUnFault _ w
  go_enter Tryz.func48, Tryz.ntmps48
  go_wp2
  go_ret
  exact ⟨rfl, Keep.refl _⟩
theorem Pol_New_kind (kind m : Int) (hk : kind < 0 ∨ 4 < kind) (w : World) :
    Calls Tryz.prog 44 #[.int .i64 kind, .int .i64 m] w fun r w' => ∃ v, r = .returned (.tuple #[.pointer none, v]) ∧ Keep w w' ∧ ErrAt w' (.fault ⟨#[112, 111, 108, 105, 99, 121]⟩ ⟨#[]⟩ (.no 7)) v := by
  by_cases h0 : kind < 0
  · clear hk
    go_enter Tryz.func44, Tryz.ntmps44
    go_wp2_with (go_at_call 47; (with_reducible refine (Pol_fault _ _ _).mono ?_); rintro r w1 ⟨v, rfl, hk, he⟩; have hk := hide hk; have he := hide he)
    go_ret2
    exact ⟨v, rfl, hk.out, he.out⟩
  · have h1 : 4 < kind := by omega
    clear hk
    go_enter Tryz.func44, Tryz.ntmps44
    go_wp2_with (go_at_call 47; (with_reducible refine (Pol_fault _ _ _).mono ?_); rintro r w1 ⟨v, rfl, hk, he⟩; have hk := hide hk; have he := hide he)
    go_ret2
    exact ⟨v, rfl, hk.out, he.out⟩
def polNames : List ByteArray := [⟨#[76, 82, 85]⟩, ⟨#[76, 70, 85]⟩, ⟨#[67, 82, 45, 76, 70, 85]⟩, ⟨#[83, 82, 45, 76, 82, 85]⟩, ⟨#[65, 82, 67]⟩, ⟨#[76, 101, 67, 97, 82]⟩, ⟨#[67, 65, 67, 72, 69, 85, 83]⟩]
def polName (k : Int) : ByteArray := if k < 0 then bNil else polNames[k.toNat]?.getD bNil
theorem Name_no (kind : Int) (hk : kind < 0 ∨ 6 < kind) (w : World) :
    Calls Tryz.prog 31 #[.int .i64 kind] w fun r w' => ∃ v, r = .returned (.tuple #[.string (polName kind), v]) ∧ Keep w w' := by
  have hn : polName kind = ⟨#[]⟩ := by
    unfold polName
    split
    · rfl
    · rw [List.getElem?_eq_none (by show 7 ≤ kind.toNat; omega)]; rfl
  rw [hn]
  clear hn
  by_cases h0 : kind < 0
  · clear hk
    go_enter Tryz.func31, Tryz.ntmps31
    go_wp2_with (go_at_call 47; (with_reducible refine (Pol_fault _ _ _).mono ?_); rintro r w1 ⟨v, rfl, hk, _⟩; have hk := hide hk)
    go_ret2
    exact ⟨v, rfl, (Keep.refl w).alloc.trans hk.out⟩
  · have h1 : 7 ≤ kind := by omega
    clear hk
    go_enter Tryz.func31, Tryz.ntmps31
    go_wp2_with (go_at_call 47; (with_reducible refine (Pol_fault _ _ _).mono ?_); rintro r w1 ⟨v, rfl, hk, _⟩; have hk := hide hk)
    go_ret2
    exact ⟨v, rfl, (Keep.refl w).alloc.trans hk.out⟩
theorem Name_0 (w : World) : Calls Tryz.prog 31 #[.int .i64 0] w fun r w' => ∃ v, r = .returned (.tuple #[.string (polName 0), v]) ∧ Keep w w' := by
  go_enter Tryz.func31, Tryz.ntmps31
  go_wp2
  go_ret2
  exact ⟨_, rfl, (Keep.refl w).alloc⟩
theorem Name_1 (w : World) : Calls Tryz.prog 31 #[.int .i64 1] w fun r w' => ∃ v, r = .returned (.tuple #[.string (polName 1), v]) ∧ Keep w w' := by
  go_enter Tryz.func31, Tryz.ntmps31
  go_wp2
  go_ret2
  exact ⟨_, rfl, (Keep.refl w).alloc⟩
theorem Name_2 (w : World) : Calls Tryz.prog 31 #[.int .i64 2] w fun r w' => ∃ v, r = .returned (.tuple #[.string (polName 2), v]) ∧ Keep w w' := by
  go_enter Tryz.func31, Tryz.ntmps31
  go_wp2
  go_ret2
  exact ⟨_, rfl, (Keep.refl w).alloc⟩
theorem Name_3 (w : World) : Calls Tryz.prog 31 #[.int .i64 3] w fun r w' => ∃ v, r = .returned (.tuple #[.string (polName 3), v]) ∧ Keep w w' := by
  go_enter Tryz.func31, Tryz.ntmps31
  go_wp2
  go_ret2
  exact ⟨_, rfl, (Keep.refl w).alloc⟩
theorem Name_4 (w : World) : Calls Tryz.prog 31 #[.int .i64 4] w fun r w' => ∃ v, r = .returned (.tuple #[.string (polName 4), v]) ∧ Keep w w' := by
  go_enter Tryz.func31, Tryz.ntmps31
  go_wp2
  go_ret2
  exact ⟨_, rfl, (Keep.refl w).alloc⟩
theorem Name_5 (w : World) : Calls Tryz.prog 31 #[.int .i64 5] w fun r w' => ∃ v, r = .returned (.tuple #[.string (polName 5), v]) ∧ Keep w w' := by
  go_enter Tryz.func31, Tryz.ntmps31
  go_wp2
  go_ret2
  exact ⟨_, rfl, (Keep.refl w).alloc⟩
theorem Name_6 (w : World) : Calls Tryz.prog 31 #[.int .i64 6] w fun r w' => ∃ v, r = .returned (.tuple #[.string (polName 6), v]) ∧ Keep w w' := by
  go_enter Tryz.func31, Tryz.ntmps31
  go_wp2
  go_ret2
  exact ⟨_, rfl, (Keep.refl w).alloc⟩
theorem Name_any (kind : Int) (w : World) : Calls Tryz.prog 31 #[.int .i64 kind] w fun r w' => ∃ v, r = .returned (.tuple #[.string (polName kind), v]) ∧ Keep w w' := by
  by_cases h : kind < 0 ∨ 6 < kind
  · exact Name_no kind h w
  · have key : kind = 0 ∨ kind = 1 ∨ kind = 2 ∨ kind = 3 ∨ kind = 4 ∨ kind = 5 ∨ kind = 6 := by omega
    rcases key with rfl | rfl | rfl | rfl | rfl | rfl | rfl
    · exact Name_0 w
    · exact Name_1 w
    · exact Name_2 w
    · exact Name_3 w
    · exact Name_4 w
    · exact Name_5 w
    · exact Name_6 w
theorem ErrAt.wrap {w : World} {op key : ByteArray} {e : EV} {v : Value} (he : ErrAt w e v) : ErrAt (w.alloc (.cells #[.string op, .string key, v] 105)) (.fault op key e) (.iface 103 (.pointer (some ⟨w.heap.size, 0, none⟩))) :=
  ⟨w.heap.size, v, rfl, (Holds.start w).alloc.block, he.keep (Keep.refl w).alloc⟩
abbrev bInst : ByteArray := ⟨#[105, 110, 115, 116]⟩
abbrev bPolicy : ByteArray := ⟨#[112, 111, 108, 105, 99, 121]⟩
abbrev bLearn : ByteArray := ⟨#[108, 101, 97, 114, 110]⟩
theorem In_NewNoP (kind m : Int) (h5 : kind ≠ 5) (h6 : kind ≠ 6) (code : Int) (t : Value) (lane : Int) (w : World)
    (hP : Calls Tryz.prog 44 #[.int .i64 kind, .int .i64 m] w fun r w' => ∃ v, r = .returned (.tuple #[.pointer none, v]) ∧ Keep w w' ∧ ErrAt w' (.fault ⟨#[112, 111, 108, 105, 99, 121]⟩ ⟨#[]⟩ (.no code)) v) :
    Calls Tryz.prog 12 #[.int .i64 kind, .int .i64 m, t, .int .i64 lane] w fun r w' => ∃ v, r = .returned (.tuple #[.pointer none, v]) ∧ Keep w w' ∧ ErrAt w' (.fault bInst (polName kind) (.fault bPolicy ⟨#[]⟩ (.no code))) v := by
  have g7 : (kind == 5) = false := by rw [beq_eq_false_iff_ne]; exact h5
  have g8 : (kind == 6) = false := by rw [beq_eq_false_iff_ne]; exact h6
  replace hP := hide hP
  have hN := hide (fun w => Name_any kind w)
  generalize hpn : polName kind = pn at hN ⊢
  clear h5 h6 hpn
  go_enter Tryz.func12, Tryz.ntmps12
  go_wp2_with (first
    | (go_at_call 44; (with_reducible refine hP.out.mono ?_); rintro r w1 ⟨v, rfl, k1, he⟩; obtain ⟨b, ve, rfl, hb, he2⟩ := he; have k1 := hide k1; have hb := hide hb; have he2 := hide he2)
    | (go_at_call 31; (with_reducible refine (hN.out _).mono ?_); rintro r w2 ⟨v2, rfl, k2⟩; have k2 := hide k2))
  go_ret2
  refine ⟨_, rfl, (k1.out.trans k2.out).alloc, ?_⟩
  have he : ErrAt w2 (.fault bPolicy ⟨#[]⟩ (.no code)) _ := ErrAt.keep k2.out (show ErrAt w1 (.fault bPolicy ⟨#[]⟩ (.no code)) _ from ⟨b, ve, rfl, hb.out, he2.out⟩)
  exact ErrAt.wrap he
theorem In_NewNoL (kind m : Int) (h56 : kind = 5 ∨ kind = 6) (t : Value) (lane : Int) (w : World)
    (hP : Calls Tryz.prog 43 #[.int .i64 kind, .int .i64 m, t, .int .i64 lane] w fun r w' => ∃ v, r = .returned (.tuple #[.pointer none, v]) ∧ Keep w w' ∧ ErrAt w' (.fault ⟨#[108, 101, 97, 114, 110]⟩ ⟨#[]⟩ (.no 1)) v) :
    Calls Tryz.prog 12 #[.int .i64 kind, .int .i64 m, t, .int .i64 lane] w fun r w' => ∃ v, r = .returned (.tuple #[.pointer none, v]) ∧ Keep w w' ∧ ErrAt w' (.fault bInst (polName kind) (.fault bLearn ⟨#[]⟩ (.no 1))) v := by
  replace hP := hide hP
  have hN := hide (fun w => Name_any kind w)
  generalize hpn : polName kind = pn at hN ⊢
  clear hpn
  rcases h56 with rfl | rfl
  all_goals
    go_enter Tryz.func12, Tryz.ntmps12
    go_wp2_with (first
      | (go_at_call 43; (with_reducible refine hP.out.mono ?_); rintro r w1 ⟨v, rfl, k1, he⟩; obtain ⟨b, ve, rfl, hb, he2⟩ := he; have k1 := hide k1; have hb := hide hb; have he2 := hide he2)
      | (go_at_call 31; (with_reducible refine (hN.out _).mono ?_); rintro r w2 ⟨v2, rfl, k2⟩; have k2 := hide k2))
    go_ret2
    refine ⟨_, rfl, (k1.out.trans k2.out).alloc, ?_⟩
    have he : ErrAt w2 (.fault bLearn ⟨#[]⟩ (.no 1)) _ := ErrAt.keep k2.out (show ErrAt w1 (.fault bLearn ⟨#[]⟩ (.no 1)) _ from ⟨b, ve, rfl, hb.out, he2.out⟩)
    exact ErrAt.wrap he
theorem Ln_New_size6 (m : Int) (hm : m < 0 ∨ 16777216 < m) (t : Nat) (lane : Int) (w : World) :
    Calls Tryz.prog 43 #[.int .i64 6, .int .i64 m, .pointer (some ⟨t, 0, none⟩), .int .i64 lane] w fun r w' => ∃ v, r = .returned (.tuple #[.pointer none, v]) ∧ Keep w w' ∧ ErrAt w' (.fault ⟨#[108, 101, 97, 114, 110]⟩ ⟨#[]⟩ (.no 1)) v := by
  have hmm := @run_makeMap Tryz.prog
  have i0 : ∀ w : World, (Instr.index 147 (.agg #[.int .i64 3, .int .i64 2]) (.int .i64 0)).run Tryz.prog w = .ok (.int .i64 3) w := fun _ => by kernel_rfl
  have h := hide (Holds.start w)
  obtain ⟨kb, hkb⟩ : ∃ kb, w.heap.size = kb := ⟨_, rfl⟩
  have H0 := (h.out.alloc (o := .cells #[.int .i64 3, .int .i64 2] 147))
  rw [hkb] at H0
  have k0 : Hide (∀ w', Keep (w.alloc (.cells #[.int .i64 3, .int .i64 2] 147)) w' → w'.cell? ⟨kb, 0, none⟩ = some (.int .i64 3) ∧ w'.cell? ⟨kb, 1, none⟩ = some (.int .i64 2)) := ⟨fun w' kk => ⟨kk.cell (Holds.cell H0 rfl), kk.cell (Holds.cell H0 rfl)⟩⟩
  replace hm := hide hm
  clear H0
  have hP := hide (fun w => Pol_New_no m hm.out w 3 (by omega))
  go_enter Tryz.func43, Tryz.ntmps43
  go_upto_region 7 with (go_at_call 66; (with_reducible refine (part_45 _).mono ?_); rintro r w1 ⟨rfl, k1⟩; have k1 := hide k1)
  have k2 := hide (k1.out.alloc (o := .cells #[.int .i64 6, .int .i64 m, .pointer (some ⟨t, 0, none⟩), .int .i64 lane, .pointer none, .pointer none, .pointer none, .pointer none, .map (some (kb + 1)), .int .i64 0, .int .u64 2305843009213693952, .int .u64 2075258708292324556, .int .i64 0, .int .i64 0, .int .i64 0, .int .i64 0, .bool true, .bool false] 154))
  generalize w1.alloc _ = W2 at k2 ⊢
  obtain ⟨y0, y1⟩ := k0.out _ ((Keep.refl _).alloc.trans k2.out)
  go_wp2
  clear y0 y1
  refine wp_loop_rounds 3 ?_
  rw [rounds_succ]
  go_wp2_with (first
    | (go_at_call 44; (with_reducible refine (hP.out _).mono ?_); rintro r w3 ⟨v, rfl, k3, he⟩; obtain ⟨b, ve, rfl, _, _⟩ := he; have k3 := hide k3)
    | (go_at_call 65; (with_reducible refine (Ln_fault _ _ _).mono ?_); rintro r w1 ⟨v, rfl, hk, he⟩; have hk := hide hk; have he := hide he))
  go_ret2
  refine ⟨_, rfl, ?_, he.out⟩
  exact (((Keep.refl w).alloc.alloc.trans k2.out).trans k3.out).trans hk.out
theorem Faulty_hit (key op : ByteArray) (n : Int) (v : Value) (w : World) (hg : Env w) (hc : n ≠ 0) (he : ErrAt w (.fault bInst key (.fault op ⟨#[]⟩ (.no n))) v) :
    Calls Tryz.prog 32 #[v, .string key, .string op, .int .i64 n] w fun r w' => r = .returned (.bool true) ∧ Keep w w' := by
  have hg := hide hg
  have hE := hide he
  obtain ⟨b, ve, rfl, hb, he2⟩ := he
  replace hb := hide hb
  replace he2 := hide he2
  have cW := hide (by
    have h := Wraps_fault bInst key bInst key (.fault op ⟨#[]⟩ (.no n)) _ n w hg.out hc hE.out trivial
    rw [show wrapsB (.fault bInst key (.fault op ⟨#[]⟩ (.no n))) bInst key n = true by simp [wrapsB, isErr, hc]] at h
    exact h)
  replace hc := hide hc
  go_enter Tryz.func32, Tryz.ntmps32
  go_wp2_with (first
    | (go_at_call 39; (with_reducible refine cW.out.mono ?_); rintro r w1 ⟨rfl, k1⟩; have k1 := hide k1)
    | (go_at_call 48; (with_reducible refine (unwrap_f b _ _ ve _ (k1.out.block _ _ hb.out)).mono ?_); rintro r w2 ⟨rfl, k2⟩; have k2 := hide (k1.out.trans k2))
    | (go_at_call 39; (with_reducible refine (Wraps_hit op ⟨#[]⟩ n ve _ (hg.out.keep k2.out) hc.out (he2.out.keep k2.out)).mono ?_); rintro r w3 ⟨rfl, k3⟩; have k3 := hide (k2.out.trans k3)))
  go_ret
  exact ⟨rfl, k3.out⟩
end Go.Proofs.YtbbdimlpofjlfaaGreatDoor
