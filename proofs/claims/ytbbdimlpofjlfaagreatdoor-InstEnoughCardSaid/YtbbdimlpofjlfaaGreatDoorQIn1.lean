/- An instance in memory: which of the seven it is, behind an interface. -/
import Derived.Test.YtbbdimlpofjlfaaGreatDoorQPoA
import Derived.Test.YtbbdimlpofjlfaaGreatDoorQTwCa
import Derived.Test.YtbbdimlpofjlfaaGreatDoorQLn10
namespace Go.Proofs.YtbbdimlpofjlfaaGreatDoor
open Go Go.RowKit

def ifP (b : Nat) : Value := .iface 100 (.pointer (some ⟨b, 0, none⟩))
def ifL (b : Nat) : Value := .iface 97 (.pointer (some ⟨b, 0, none⟩))
/-- What an instance's interface value tells. -/
def IsCa (tb : Nat) (v : Value) : Ca → SProp
  | .pol n p => fun h => ∃ pb, v = ifP pb ∧ IsPol pb n p.most p h
  | .arc s => fun h => ∃ pb, v = ifP pb ∧ IsPolA pb s.most s h
  | .ln s => fun h => ∃ lb, v = ifL lb ∧ IsLn lb tb s h
structure In where
  c : Ca
  n : Int
  h : Int
def inCells (v : Value) (x : In) : Array Value := #[v, .int .i64 x.n, .int .i64 x.h]
/-- An instance at block b, with the tape at tb. -/
def IsIn (b tb : Nat) (x : In) : SProp := fun h => ∃ v, All [pts b (.cells (inCells v x) 107), IsCa tb v x.c] h
theorem Holds.isIn {g w : World} {b tb : Nat} {x : In} {F : List SProp} (h : Holds g w (IsIn b tb x :: F)) : ∃ v, Holds g w (pts b (.cells (inCells v x) 107) :: IsCa tb v x.c :: F) := by
  obtain ⟨v, h⟩ := h.unex
  exact ⟨v, h.unall⟩
theorem Holds.toIn {g w : World} {b tb : Nat} {v : Value} {x : In} {F : List SProp} (h : Holds g w (pts b (.cells (inCells v x) 107) :: IsCa tb v x.c :: F)) : Holds g w (IsIn b tb x :: F) := by
  have h' : Holds g w (All [pts b (.cells (inCells v x) 107), IsCa tb v x.c] :: F) := Holds.all h
  exact h'.head fun _ hx => ⟨v, hx⟩
theorem inc {g w : World} {b : Nat} {v : Value} {x : In} {F : List SProp} (h : Holds g w (pts b (.cells (inCells v x) 107) :: F)) :
    w.cell? ⟨b, 0, none⟩ = some v ∧ w.cell? ⟨b, 1, none⟩ = some (.int .i64 x.n) ∧ w.cell? ⟨b, 2, none⟩ = some (.int .i64 x.h) ∧ w.frozen? ⟨b, 1, none⟩ = false ∧ w.frozen? ⟨b, 2, none⟩ = false :=
  ⟨h.cell rfl, h.cell rfl, h.cell rfl, Holds.free h, Holds.free h⟩
/-- The three ways. -/
theorem Holds.caPol {g w : World} {tb : Nat} {v : Value} {n : Int} {p : Pol} {F : List SProp} (h : Holds g w (IsCa tb v (.pol n p) :: F)) : ∃ pb, v = ifP pb ∧ Holds g w (IsPol pb n p.most p :: F) := by
  obtain ⟨pb, h⟩ := h.unex
  exact ⟨pb, h.unfact⟩
theorem Holds.caArc {g w : World} {tb : Nat} {v : Value} {s : Arc} {F : List SProp} (h : Holds g w (IsCa tb v (.arc s) :: F)) : ∃ pb, v = ifP pb ∧ Holds g w (IsPolA pb s.most s :: F) := by
  obtain ⟨pb, h⟩ := h.unex
  exact ⟨pb, h.unfact⟩
theorem Holds.caLn {g w : World} {tb : Nat} {v : Value} {s : Ln} {F : List SProp} (h : Holds g w (IsCa tb v (.ln s) :: F)) : ∃ pb, v = ifL pb ∧ Holds g w (IsLn pb tb s :: F) := by
  obtain ⟨pb, h⟩ := h.unex
  exact ⟨pb, h.unfact⟩
theorem Holds.toCaPol {g w : World} {tb pb : Nat} {n : Int} {m : Nat} {p : Pol} {F : List SProp} (hm : p.most = m) (h : Holds g w (IsPol pb n m p :: F)) : Holds g w (IsCa tb (ifP pb) (.pol n p) :: F) := by
  subst hm
  exact h.head fun _ hx => ⟨pb, rfl, hx⟩
theorem Holds.toCaArc {g w : World} {tb pb : Nat} {m : Nat} {s : Arc} {F : List SProp} (hm : s.most = m) (h : Holds g w (IsPolA pb m s :: F)) : Holds g w (IsCa tb (ifP pb) (.arc s) :: F) := by
  subst hm
  exact h.head fun _ hx => ⟨pb, rfl, hx⟩
theorem Holds.toCaLn {g w : World} {tb pb : Nat} {s : Ln} {F : List SProp} (h : Holds g w (IsLn pb tb s :: F)) : Holds g w (IsCa tb (ifL pb) (.ln s) :: F) :=
  h.head fun _ hx => ⟨pb, rfl, hx⟩
set_option maxRecDepth 100000
set_option maxHeartbeats 2000000
theorem In_Has {g w : World} {b tb : Nat} {x : In} {F : List SProp} (h : Holds g w (IsIn b tb x :: F)) (k : ByteArray) (d : Bool) (hd : x.c.has k = d) :
    Calls Tryz.prog 18 #[.pointer (some ⟨b, 0, none⟩), .string k] w fun r w' => r = .returned (.bool d) ∧ Keep w w' := by
  obtain ⟨v, h⟩ := h.isIn
  obtain ⟨c0, -⟩ := inc h
  obtain ⟨c, n, hh⟩ := x
  cases c with
  | pol kn p =>
    obtain ⟨pb, rfl, h⟩ := h.p1.caPol
    have cM := hide (Pol_Has h k d hd)
    unfold ifP at c0
    clear h hd
    go_enter Tryz.func18, Tryz.ntmps18
    go_wp2_with (go_at_call 312; (with_reducible refine cM.out.mono ?_); rintro r w1 ⟨rfl, h1⟩; have h1 := hide h1)
    go_ret
    exact ⟨rfl, h1.out⟩
  | arc s =>
    obtain ⟨pb, rfl, h⟩ := h.p1.caArc
    have cM := hide (PolA_Has h k d hd)
    unfold ifP at c0
    clear h hd
    go_enter Tryz.func18, Tryz.ntmps18
    go_wp2_with (go_at_call 312; (with_reducible refine cM.out.mono ?_); rintro r w1 ⟨rfl, h1⟩; have h1 := hide h1)
    go_ret
    exact ⟨rfl, h1.out⟩
  | ln s =>
    obtain ⟨pb, rfl, h⟩ := h.p1.caLn
    have cM := hide (Ln_Has h k d hd)
    unfold ifL at c0
    clear h hd
    go_enter Tryz.func18, Tryz.ntmps18
    go_wp2_with (go_at_call 296; (with_reducible refine cM.out.mono ?_); rintro r w1 ⟨rfl, h1⟩; have h1 := hide h1)
    go_ret
    exact ⟨rfl, h1.out⟩
theorem In_Len {g w : World} {b tb : Nat} {x : In} {F : List SProp} (h : Holds g w (IsIn b tb x :: F)) (n : Nat) (hn : x.c.len = n) (hl : x.c.len < 1000000) :
    Calls Tryz.prog 19 #[.pointer (some ⟨b, 0, none⟩)] w fun r w' => r = .returned (.int .i64 n) ∧ Keep w w' := by
  obtain ⟨v, h⟩ := h.isIn
  obtain ⟨c0, -⟩ := inc h
  obtain ⟨c, n, hh⟩ := x
  cases c with
  | pol kn p =>
    obtain ⟨pb, rfl, h⟩ := h.p1.caPol
    have cM := hide (Pol_Len h _ hn hl)
    unfold ifP at c0
    clear h hn hl
    go_enter Tryz.func19, Tryz.ntmps19
    go_wp2_with (go_at_call 314; (with_reducible refine cM.out.mono ?_); rintro r w1 ⟨rfl, m1, rfl⟩)
    go_ret
    exact ⟨rfl, (Keep.refl _).drewN⟩
  | arc s =>
    obtain ⟨pb, rfl, h⟩ := h.p1.caArc
    have cM := hide (PolA_Len h _ hn hl)
    unfold ifP at c0
    clear h hn hl
    go_enter Tryz.func19, Tryz.ntmps19
    go_wp2_with (go_at_call 314; (with_reducible refine cM.out.mono ?_); rintro r w1 ⟨rfl, m1, rfl⟩)
    go_ret
    exact ⟨rfl, (Keep.refl _).drewN⟩
  | ln s =>
    obtain ⟨pb, rfl, h⟩ := h.p1.caLn
    have cM := hide (Ln_Len h _ hn hl)
    unfold ifL at c0
    clear h hn hl
    go_enter Tryz.func19, Tryz.ntmps19
    go_wp2_with (go_at_call 299; (with_reducible refine cM.out.mono ?_); rintro r w1 ⟨rfl, m1, rfl⟩)
    go_ret
    exact ⟨rfl, (Keep.refl _).drewN⟩
theorem In_Victim {g w : World} {b tb : Nat} {x : In} {F : List SProp} (h : Holds g w (IsIn b tb x :: F)) (y : ByteArray) (d : Bool) (hx : x.c.victim = (y, d)) :
    Calls Tryz.prog 24 #[.pointer (some ⟨b, 0, none⟩)] w fun r w' => r = .returned (.tuple #[.string y, .bool d]) ∧ Keep w w' := by
  obtain ⟨v, h⟩ := h.isIn
  obtain ⟨c0, -⟩ := inc h
  obtain ⟨c, n, hh⟩ := x
  cases c with
  | pol kn p =>
    obtain ⟨pb, rfl, h⟩ := h.p1.caPol
    have cM := hide (Pol_Victim h y d hx)
    unfold ifP at c0
    clear h hx
    go_enter Tryz.func24, Tryz.ntmps24
    go_wp2_with (go_at_call 323; (with_reducible refine cM.out.mono ?_); rintro r w1 ⟨rfl, h1⟩; have h1 := hide h1)
    go_ret2
    exact ⟨rfl, h1.out⟩
  | arc s =>
    obtain ⟨pb, rfl, h⟩ := h.p1.caArc
    have cM := hide (PolA_Victim h y d hx)
    unfold ifP at c0
    clear h hx
    go_enter Tryz.func24, Tryz.ntmps24
    go_wp2_with (go_at_call 323; (with_reducible refine cM.out.mono ?_); rintro r w1 ⟨rfl, h1⟩; have h1 := hide h1)
    go_ret2
    exact ⟨rfl, h1.out⟩
  | ln s =>
    obtain ⟨pb, rfl, h⟩ := h.p1.caLn
    have cM := hide (Ln_Victim h y d hx)
    unfold ifL at c0
    clear h hx
    go_enter Tryz.func24, Tryz.ntmps24
    go_wp2_with (go_at_call 304; (with_reducible refine cM.out.mono ?_); rintro r w1 ⟨rfl, h1⟩; have h1 := hide h1)
    go_ret2
    exact ⟨rfl, h1.out⟩
theorem In_Drop {g w : World} {b tb : Nat} {x : In} {F : List SProp} (h : Holds g w (IsIn b tb x :: F)) (y : ByteArray) (d : Bool) (hx : x.c.victim = (y, d)) (hi : x.c.Inv) :
    Calls Tryz.prog 25 #[.pointer (some ⟨b, 0, none⟩)] w fun r w' => r = .returned (.tuple #[.string y, .bool d]) ∧ Holds g w' (IsIn b tb ⟨x.c.drop, x.n, x.h⟩ :: F) := by
  have hm := hide (Ca.drop_res hi).2.1
  obtain ⟨v, h⟩ := h.isIn
  obtain ⟨c0, -⟩ := inc h
  obtain ⟨c, n, hh⟩ := x
  cases c with
  | pol kn p =>
    obtain ⟨pb, rfl, h⟩ := h.p1.caPol
    have cM := hide (Pol_Drop h y d hx)
    unfold ifP at c0
    clear h hx hi
    go_enter Tryz.func25, Tryz.ntmps25
    go_wp2_with (go_at_call 338; (with_reducible refine cM.out.mono ?_); rintro r w1 ⟨rfl, h1⟩; have h1 := hide h1)
    go_ret2
    exact ⟨rfl, Holds.toIn (x := ⟨.pol kn p.drop, n, hh⟩) (Holds.p1 (Holds.toCaPol hm.out h1.out))⟩
  | arc s =>
    obtain ⟨pb, rfl, h⟩ := h.p1.caArc
    have cM := hide (PolA_Drop h y d hx)
    unfold ifP at c0
    clear h hx hi
    go_enter Tryz.func25, Tryz.ntmps25
    go_wp2_with (go_at_call 338; (with_reducible refine cM.out.mono ?_); rintro r w1 ⟨rfl, h1⟩; have h1 := hide h1)
    go_ret2
    exact ⟨rfl, Holds.toIn (x := ⟨.arc s.drop, n, hh⟩) (Holds.p1 (Holds.toCaArc hm.out h1.out))⟩
  | ln s =>
    obtain ⟨pb, rfl, h⟩ := h.p1.caLn
    have cM := hide (Ln_Drop h y d hx)
    unfold ifL at c0
    clear h hx hi
    go_enter Tryz.func25, Tryz.ntmps25
    go_wp2_with (go_at_call 294; (with_reducible refine cM.out.mono ?_); rintro r w1 ⟨rfl, h1⟩; have h1 := hide h1)
    go_ret2
    exact ⟨rfl, Holds.toIn (x := ⟨.ln s.drop, n, hh⟩) (Holds.p1 (Holds.toCaLn h1.out))⟩
theorem In_Remove {g w : World} {b tb : Nat} {x : In} {F : List SProp} (h : Holds g w (IsIn b tb x :: F)) (k : ByteArray) (d : Bool) (hd : x.c.has k = d) :
    Calls Tryz.prog 23 #[.pointer (some ⟨b, 0, none⟩), .string k] w fun r w' => r = .returned (.bool d) ∧ Holds g w' (IsIn b tb ⟨x.c.remove k, x.n, x.h⟩ :: F) := by
  obtain ⟨v, h⟩ := h.isIn
  obtain ⟨c0, -⟩ := inc h
  obtain ⟨c, n, hh⟩ := x
  cases c with
  | pol kn p =>
    obtain ⟨pb, rfl, h⟩ := h.p1.caPol
    have cM := hide (Pol_Remove h k d hd)
    unfold ifP at c0
    clear h hd
    go_enter Tryz.func23, Tryz.ntmps23
    go_wp2_with (go_at_call 327; (with_reducible refine cM.out.mono ?_); rintro r w1 ⟨rfl, h1⟩; have h1 := hide h1)
    go_ret
    exact ⟨rfl, Holds.toIn (x := ⟨.pol kn (p.remove k), n, hh⟩) (Holds.p1 (Holds.toCaPol (Pol.remove_most p k) h1.out))⟩
  | arc s =>
    obtain ⟨pb, rfl, h⟩ := h.p1.caArc
    have cM := hide (PolA_Remove h k d hd)
    unfold ifP at c0
    clear h hd
    go_enter Tryz.func23, Tryz.ntmps23
    go_wp2_with (go_at_call 327; (with_reducible refine cM.out.mono ?_); rintro r w1 ⟨rfl, h1⟩; have h1 := hide h1)
    go_ret
    exact ⟨rfl, Holds.toIn (x := ⟨.arc (s.off k), n, hh⟩) (Holds.p1 (Holds.toCaArc (Arc.off_most s k) h1.out))⟩
  | ln s =>
    obtain ⟨pb, rfl, h⟩ := h.p1.caLn
    have cM := hide (Ln_Remove h k d hd)
    unfold ifL at c0
    clear h hd
    go_enter Tryz.func23, Tryz.ntmps23
    go_wp2_with (go_at_call 301; (with_reducible refine cM.out.mono ?_); rintro r w1 ⟨rfl, h1⟩; have h1 := hide h1)
    go_ret
    exact ⟨rfl, Holds.toIn (x := ⟨.ln (s.remove k), n, hh⟩) (Holds.p1 (Holds.toCaLn h1.out))⟩
theorem In_Adopt {g w : World} {b tb : Nat} {x : In} {F : List SProp} (h : Holds g w (IsIn b tb x :: F)) (k : ByteArray) (i : Nat) (hf : x.c.Fit i) (hi : i < 100000) :
    Calls Tryz.prog 22 #[.pointer (some ⟨b, 0, none⟩), .string k] w fun r w' => r = .returned (.bool (x.c.adopt k).2) ∧ Holds g w' (IsIn b tb ⟨(x.c.adopt k).1, x.n, x.h⟩ :: F) := by
  obtain ⟨v, h⟩ := h.isIn
  obtain ⟨c0, -⟩ := inc h
  obtain ⟨c, n, hh⟩ := x
  cases c with
  | pol kn p =>
    obtain ⟨pb, rfl, h⟩ := h.p1.caPol
    have cM := hide (Pol_Adopt h k i _ (show Pol.Fit i _ p from hf.1) hi)
    unfold ifP at c0
    clear h hf
    go_enter Tryz.func22, Tryz.ntmps22
    go_wp2_with (go_at_call 310; (with_reducible refine cM.out.mono ?_); rintro r w1 ⟨rfl, h1⟩; have h1 := hide h1)
    go_ret
    exact ⟨rfl, Holds.toIn (x := ⟨.pol kn (p.adopt k).1, n, hh⟩) (Holds.p1 (Holds.toCaPol (Pol.adopt_most p k) h1.out))⟩
  | arc s =>
    obtain ⟨pb, rfl, h⟩ := h.p1.caArc
    have cM := hide (PolA_Adopt h k (by have := hf.1; omega) (by have := hf.2.2; omega))
    unfold ifP at c0
    clear h hf
    go_enter Tryz.func22, Tryz.ntmps22
    go_wp2_with (go_at_call 310; (with_reducible refine cM.out.mono ?_); rintro r w1 ⟨rfl, h1⟩; have h1 := hide h1)
    go_ret
    exact ⟨rfl, Holds.toIn (x := ⟨.arc (s.adopt k).1, n, hh⟩) (Holds.p1 (Holds.toCaArc (Arc.adopt_keep s k).2.1 h1.out))⟩
  | ln s =>
    obtain ⟨pb, rfl, h⟩ := h.p1.caLn
    have cM := hide (Ln_Adopt (s := { s with tape := [] }) h k i hf.1 hi)
    unfold ifL at c0
    clear h hf
    go_enter Tryz.func22, Tryz.ntmps22
    go_wp2_with (go_at_call 293; (with_reducible refine cM.out.mono ?_); rintro r w1 ⟨rfl, h1⟩; have h1 := hide h1)
    go_ret
    (have H := h1.out; rw [Ln.adopt_tape s [] k] at H ⊢; exact ⟨rfl, Holds.toIn (x := ⟨.ln (s.adopt k).1, n, hh⟩) (Holds.p1 (Holds.toCaLn H))⟩)
theorem In_Keys {g w : World} {b tb : Nat} {x : In} {F : List SProp} (h : Holds g w (IsIn b tb x :: F)) (i : Nat) (hf : x.c.Fit i) (hi : i < 100000) :
    Calls Tryz.prog 14 #[.pointer (some ⟨b, 0, none⟩)] w fun r w' => ∃ v, r = .returned v ∧ Holds g w' (OwnStrs v x.c.keys :: IsIn b tb x :: F) := by
  have hl := hf.len
  obtain ⟨v, h⟩ := h.isIn
  obtain ⟨c0, -⟩ := inc h
  obtain ⟨c, n, hh⟩ := x
  cases c with
  | pol kn p =>
    obtain ⟨pb, rfl, h⟩ := h.p1.caPol
    have cM := hide (Pol_KeysAny h (show Pol.len p ≤ _ by have : Pol.len p ≤ i := hl; omega))
    unfold ifP at c0
    clear h hf hl
    go_enter Tryz.func14, Tryz.ntmps14
    go_wp2_with (go_at_call 313; (with_reducible refine cM.out.mono ?_); rintro r w1 ⟨v1, rfl, h1⟩; have h1 := hide h1)
    go_ret
    exact ⟨_, rfl, Holds.p1 (Holds.toIn (x := ⟨.pol kn p, n, hh⟩) (Holds.p2 (Holds.toCaPol rfl h1.out.p1)))⟩
  | arc s =>
    obtain ⟨pb, rfl, h⟩ := h.p1.caArc
    have cM := hide (PolA_Keys h (by have : s.t1.length + s.t2.length ≤ i := hl; omega))
    unfold ifP at c0
    clear h hf hl
    go_enter Tryz.func14, Tryz.ntmps14
    go_wp2_with (go_at_call 313; (with_reducible refine cM.out.mono ?_); rintro r w1 ⟨v1, rfl, h1⟩; have h1 := hide h1)
    go_ret
    exact ⟨_, rfl, Holds.p1 (Holds.toIn (x := ⟨.arc s, n, hh⟩) (Holds.p2 (Holds.toCaArc rfl h1.out.p1)))⟩
  | ln s =>
    obtain ⟨pb, rfl, h⟩ := h.p1.caLn
    have cM := hide (Ln_Keys h (Ln.Fit.al (s := { s with tape := [] }) hf.1) (show Ln.len s ≤ _ by have : Ln.len s ≤ i := hl; omega))
    unfold ifL at c0
    clear h hf hl
    go_enter Tryz.func14, Tryz.ntmps14
    go_wp2_with (go_at_call 297; (with_reducible refine cM.out.mono ?_); rintro r w1 ⟨v1, rfl, h1⟩; have h1 := hide h1)
    go_ret
    exact ⟨_, rfl, Holds.p1 (Holds.toIn (x := ⟨.ln s, n, hh⟩) (Holds.p2 (Holds.toCaLn h1.out.p1)))⟩
theorem In_Ghosts {g w : World} {b tb : Nat} {x : In} {F : List SProp} (h : Holds g w (IsIn b tb x :: F)) (i : Nat) (hf : x.c.Fit i) (hi : i < 100000) :
    Calls Tryz.prog 21 #[.pointer (some ⟨b, 0, none⟩)] w fun r w' => ∃ v, r = .returned v ∧ Holds g w' (OwnStrs v x.c.ghosts :: IsIn b tb x :: F) := by
  obtain ⟨v, h⟩ := h.isIn
  obtain ⟨c0, -⟩ := inc h
  obtain ⟨c, n, hh⟩ := x
  cases c with
  | pol kn p =>
    obtain ⟨pb, rfl, h⟩ := h.p1.caPol
    have cM := hide (Pol_Ghosts h)
    unfold ifP at c0
    clear h hf
    go_enter Tryz.func21, Tryz.ntmps21
    go_wp2_with (go_at_call 339; (with_reducible refine cM.out.mono ?_); rintro r w1 ⟨v1, rfl, h1⟩; have h1 := hide h1)
    go_ret
    exact ⟨_, rfl, Holds.p1 (Holds.toIn (x := ⟨.pol kn p, n, hh⟩) (Holds.p2 (Holds.toCaPol rfl h1.out.p1)))⟩
  | arc s =>
    obtain ⟨pb, rfl, h⟩ := h.p1.caArc
    have cM := hide (PolA_Ghosts h (by have := hf.1; unfold Arc.size at this; omega))
    unfold ifP at c0
    clear h hf
    go_enter Tryz.func21, Tryz.ntmps21
    go_wp2_with (go_at_call 339; (with_reducible refine cM.out.mono ?_); rintro r w1 ⟨v1, rfl, h1⟩; have h1 := hide h1)
    go_ret
    exact ⟨_, rfl, Holds.p1 (Holds.toIn (x := ⟨.arc s, n, hh⟩) (Holds.p2 (Holds.toCaArc rfl h1.out.p1)))⟩
  | ln s =>
    obtain ⟨pb, rfl, h⟩ := h.p1.caLn
    have cM := hide (Ln_Ghosts h (by have := Ln.Fit.ga (s := { s with tape := [] }) hf.1; have := Ln.Fit.gb (s := { s with tape := [] }) hf.1; dsimp only at *; omega))
    unfold ifL at c0
    clear h hf
    go_enter Tryz.func21, Tryz.ntmps21
    go_wp2_with (go_at_call 295; (with_reducible refine cM.out.mono ?_); rintro r w1 ⟨v1, rfl, h1⟩; have h1 := hide h1)
    go_ret
    exact ⟨_, rfl, Holds.p1 (Holds.toIn (x := ⟨.ln s, n, hh⟩) (Holds.p2 (Holds.toCaLn h1.out.p1)))⟩
theorem In_Resize {g w : World} {b tb : Nat} {x : In} {F : List SProp} (h : Holds g w (IsIn b tb x :: F)) (most : Nat) (hm : most ≤ 16777216) (i : Nat) (hf : x.c.Fit i) (hi : i < 100000) (hv : x.c.Inv) :
    Calls Tryz.prog 26 #[.pointer (some ⟨b, 0, none⟩), .int .i64 (most : Nat)] w fun r w' => ∃ v, r = .returned (.tuple #[v, .nilIface]) ∧ Holds g w' (OwnStrs v (x.c.resize most).2 :: IsIn b tb ⟨(x.c.resize most).1, x.n, x.h⟩ :: F) := by
  have hmo := hide (Ca.resize_res hv most).2.1
  obtain ⟨v, h⟩ := h.isIn
  obtain ⟨c0, -⟩ := inc h
  obtain ⟨c, n, hh⟩ := x
  cases c with
  | pol kn p =>
    obtain ⟨pb, rfl, h⟩ := h.p1.caPol
    have cM := hide (Pol_Resize h most hm i _ (show Pol.Fit i _ p from hf.1) hi (by have := hf.2; omega))
    unfold ifP at c0
    clear h hf hv
    go_enter Tryz.func26, Tryz.ntmps26
    go_wp2_with (go_at_call 321; (with_reducible refine cM.out.mono ?_); rintro r w1 ⟨v1, rfl, h1⟩; have h1 := hide h1)
    go_ret2
    exact ⟨_, rfl, Holds.p1 (Holds.toIn (x := ⟨.pol kn (p.resize most).1, n, hh⟩) (Holds.p2 (Holds.toCaPol hmo.out h1.out.p1)))⟩
  | arc s =>
    obtain ⟨pb, rfl, h⟩ := h.p1.caArc
    have cM := hide (PolA_Resize h most hm (by have := hf.1; omega) (by have := hf.2.2; have := hf.2.1; omega))
    unfold ifP at c0
    clear h hf hv
    go_enter Tryz.func26, Tryz.ntmps26
    go_wp2_with (go_at_call 321; (with_reducible refine cM.out.mono ?_); rintro r w1 ⟨v1, rfl, h1⟩; have h1 := hide h1)
    go_ret2
    exact ⟨_, rfl, Holds.p1 (Holds.toIn (x := ⟨.arc (s.resize most).1, n, hh⟩) (Holds.p2 (Holds.toCaArc hmo.out h1.out.p1)))⟩
  | ln s =>
    obtain ⟨pb, rfl, h⟩ := h.p1.caLn
    have cM := hide (Ln_Resize (s := { s with tape := [] }) h most hm i hf.1 hi (Ln.Inv.tape (show Ln.Inv s from hv) []) hf.2)
    unfold ifL at c0
    clear h hf hv
    go_enter Tryz.func26, Tryz.ntmps26
    go_wp2_with (go_at_call 303; (with_reducible refine cM.out.mono ?_); rintro r w1 ⟨v1, rfl, h1⟩; have h1 := hide h1)
    go_ret2
    (have H := h1.out; rw [Ln.resize_tape s [] most] at H; exact ⟨_, rfl, Holds.p1 (Holds.toIn (x := ⟨.ln (s.resize most).1, n, hh⟩) (Holds.p2 (Holds.toCaLn (s := (s.resize most).1) (Holds.p1 H))))⟩)
theorem In_Kind {g w : World} {b tb : Nat} {x : In} {F : List SProp} (h : Holds g w (IsIn b tb x :: F)) (n : Int) (hn : x.c.kind = n) :
    Calls Tryz.prog 42 #[.pointer (some ⟨b, 0, none⟩)] w fun r w' => r = .returned (.int .i64 n) ∧ Keep w w' := by
  subst hn
  obtain ⟨v, h⟩ := h.isIn
  obtain ⟨c0, -⟩ := inc h
  obtain ⟨c, n, hh⟩ := x
  cases c with
  | pol kn p =>
    obtain ⟨pb, rfl, h⟩ := h.p1.caPol
    have cM := hide (by obtain ⟨cb, h⟩ := h.isPol; exact Pol_KindAt (pcells h).1)
    unfold ifP at c0
    clear h 
    go_enter Tryz.func42, Tryz.ntmps42
    go_wp2_with (go_at_call 340; (with_reducible refine cM.out.mono ?_); rintro r w1 ⟨rfl, rfl⟩)
    go_ret
    exact ⟨rfl, Keep.refl _⟩
  | arc s =>
    obtain ⟨pb, rfl, h⟩ := h.p1.caArc
    have cM := hide (by obtain ⟨cb, h⟩ := h.isPolA; exact Pol_KindAt (kind := 4) (Holds.cell (off := 0) h rfl))
    unfold ifP at c0
    clear h 
    go_enter Tryz.func42, Tryz.ntmps42
    go_wp2_with (go_at_call 340; (with_reducible refine cM.out.mono ?_); rintro r w1 ⟨rfl, rfl⟩)
    go_ret
    exact ⟨rfl, Keep.refl _⟩
  | ln s =>
    obtain ⟨pb, rfl, h⟩ := h.p1.caLn
    have cM := hide (Ln_Kind h _ rfl)
    unfold ifL at c0
    clear h 
    go_enter Tryz.func42, Tryz.ntmps42
    go_wp2_with (go_at_call 298; (with_reducible refine cM.out.mono ?_); rintro r w1 ⟨rfl, rfl⟩)
    go_ret
    exact ⟨rfl, Keep.refl _⟩
theorem In_Most {g w : World} {b tb : Nat} {x : In} {F : List SProp} (h : Holds g w (IsIn b tb x :: F)) (n : Nat) (hn : x.c.most = n) :
    Calls Tryz.prog 27 #[.pointer (some ⟨b, 0, none⟩)] w fun r w' => r = .returned (.int .i64 n) ∧ Keep w w' := by
  subst hn
  obtain ⟨v, h⟩ := h.isIn
  obtain ⟨c0, -⟩ := inc h
  obtain ⟨c, n, hh⟩ := x
  cases c with
  | pol kn p =>
    obtain ⟨pb, rfl, h⟩ := h.p1.caPol
    have cM := hide (by obtain ⟨cb, h⟩ := h.isPol; exact Pol_MostAt (pcells h).2)
    unfold ifP at c0
    clear h 
    go_enter Tryz.func27, Tryz.ntmps27
    go_wp2_with (go_at_call 341; (with_reducible refine cM.out.mono ?_); rintro r w1 ⟨rfl, rfl⟩)
    go_ret
    exact ⟨rfl, Keep.refl _⟩
  | arc s =>
    obtain ⟨pb, rfl, h⟩ := h.p1.caArc
    have cM := hide (by obtain ⟨cb, h⟩ := h.isPolA; exact Pol_MostAt (Holds.cell (off := 1) h rfl))
    unfold ifP at c0
    clear h 
    go_enter Tryz.func27, Tryz.ntmps27
    go_wp2_with (go_at_call 341; (with_reducible refine cM.out.mono ?_); rintro r w1 ⟨rfl, rfl⟩)
    go_ret
    exact ⟨rfl, Keep.refl _⟩
  | ln s =>
    obtain ⟨pb, rfl, h⟩ := h.p1.caLn
    have cM := hide (Ln_Most h _ rfl)
    unfold ifL at c0
    clear h 
    go_enter Tryz.func27, Tryz.ntmps27
    go_wp2_with (go_at_call 300; (with_reducible refine cM.out.mono ?_); rintro r w1 ⟨rfl, rfl⟩)
    go_ret
    exact ⟨rfl, Keep.refl _⟩
end Go.Proofs.YtbbdimlpofjlfaaGreatDoor
