/- One of the policies, in memory. -/
import Derived.Test.YtbbdimlpofjlfaaGreatDoorQSr4
import Derived.Test.YtbbdimlpofjlfaaGreatDoorQLru1
import Derived.Test.YtbbdimlpofjlfaaGreatDoorQLfu1
import Derived.Test.YtbbdimlpofjlfaaGreatDoorQTwLearn
namespace Go.Proofs.YtbbdimlpofjlfaaGreatDoor
open Go Go.RowKit

/-- A method of what lies at a block. -/
def mv (f : FuncId) (cb : Nat) : Value := .func (.func f) #[.pointer (some ⟨cb, 0, none⟩)] #[]
def polCells (kind : Int) (m : Nat) (cb : Nat) : Pol → Array Value
  | .lru _ => #[.int .i64 kind, .int .i64 (m : Nat), mv 70 cb, mv 71 cb, mv 72 cb, mv 73 cb, mv 74 cb, mv 75 cb, mv 76 cb, mv 77 cb, mv 78 cb, mv 79 cb]
  | .lfu _ => #[.int .i64 kind, .int .i64 (m : Nat), mv 81 cb, mv 82 cb, mv 83 cb, mv 84 cb, mv 85 cb, mv 86 cb, mv 87 cb, mv 88 cb, mv 89 cb, mv 90 cb]
  | .sr _ => #[.int .i64 kind, .int .i64 (m : Nat), mv 92 cb, mv 93 cb, mv 94 cb, mv 95 cb, mv 96 cb, mv 97 cb, mv 98 cb, mv 99 cb, mv 100 cb, mv 101 cb]
def PolCore (cb : Nat) : Pol → SProp
  | .lru s => IsLru cb s
  | .lfu s => IsLfu cb s
  | .sr s => IsSr cb s
/-- A policy at block b. -/
def IsPol (b : Nat) (kind : Int) (m : Nat) (p : Pol) : SProp := fun h => ∃ cb, All [pts b (.cells (polCells kind m cb p) 158), PolCore cb p] h
theorem Holds.isPol {g w : World} {b : Nat} {kind : Int} {m : Nat} {p : Pol} {F : List SProp} (h : Holds g w (IsPol b kind m p :: F)) : ∃ cb, Holds g w (pts b (.cells (polCells kind m cb p) 158) :: PolCore cb p :: F) := by
  obtain ⟨cb, h⟩ := h.unex
  exact ⟨cb, h.unall⟩
theorem Holds.toPol {g w : World} {b cb : Nat} {kind : Int} {m : Nat} {p : Pol} {F : List SProp} (h : Holds g w (pts b (.cells (polCells kind m cb p) 158) :: PolCore cb p :: F)) : Holds g w (IsPol b kind m p :: F) := by
  have h' : Holds g w (All [pts b (.cells (polCells kind m cb p) 158), PolCore cb p] :: F) := Holds.all h
  exact h'.head fun x hx => ⟨cb, hx⟩
theorem pcells {g w : World} {b cb : Nat} {kind : Int} {m : Nat} {p : Pol} {F : List SProp} (h : Holds g w (pts b (.cells (polCells kind m cb p) 158) :: F)) :
    w.cell? ⟨b, 0, none⟩ = some (.int .i64 kind) ∧ w.cell? ⟨b, 1, none⟩ = some (.int .i64 (m : Nat)) := by
  cases p <;> exact ⟨h.cell rfl, h.cell rfl⟩
set_option maxRecDepth 100000
set_option maxHeartbeats 1000000
theorem Pol_Has {g w : World} {b : Nat} {kind : Int} {m : Nat} {p : Pol} {F : List SProp} (h : Holds g w (IsPol b kind m p :: F)) (k : ByteArray) (d : Bool) (hd : p.has k = d) :
    Calls Tryz.prog 312 #[.pointer (some ⟨b, 0, none⟩), .string k] w fun r w' => r = .returned (.bool d) ∧ Keep w w' := by
  obtain ⟨cb, h⟩ := h.isPol
  cases p with
  | lru s =>
    have c0 : w.cell? ⟨b, 2, none⟩ = some (.func (.func 70) #[.pointer (some ⟨cb, 0, none⟩)] #[]) := Holds.cell (off := 2) h rfl
    have cM := hide (Lru_Has (Holds.p1 h) k d hd)
    go_enter Tryz.func312, Tryz.ntmps312
    go_wp2_with (go_at_call 70; (with_reducible refine cM.out.mono ?_); rintro r w1 ⟨rfl, rfl⟩)
    go_ret
    exact ⟨rfl, Keep.refl _⟩
  | lfu s =>
    have c0 : w.cell? ⟨b, 2, none⟩ = some (.func (.func 81) #[.pointer (some ⟨cb, 0, none⟩)] #[]) := Holds.cell (off := 2) h rfl
    have cM := hide (Lfu_Has (Holds.p1 h) k d hd)
    go_enter Tryz.func312, Tryz.ntmps312
    go_wp2_with (go_at_call 81; (with_reducible refine cM.out.mono ?_); rintro r w1 ⟨rfl, h1⟩; have h1 := hide h1)
    go_ret
    exact ⟨rfl, h1.out⟩
  | sr s =>
    have c0 : w.cell? ⟨b, 2, none⟩ = some (.func (.func 92) #[.pointer (some ⟨cb, 0, none⟩)] #[]) := Holds.cell (off := 2) h rfl
    have cM := hide (Sr_Has (Holds.p1 h) k d hd)
    go_enter Tryz.func312, Tryz.ntmps312
    go_wp2_with (go_at_call 92; (with_reducible refine cM.out.mono ?_); rintro r w1 ⟨rfl, rfl⟩)
    go_ret
    exact ⟨rfl, Keep.refl _⟩
theorem Pol_Len {g w : World} {b : Nat} {kind : Int} {m : Nat} {p : Pol} {F : List SProp} (h : Holds g w (IsPol b kind m p :: F)) (n : Nat) (hn : p.len = n) (hl : p.len < 1000000) :
    Calls Tryz.prog 314 #[.pointer (some ⟨b, 0, none⟩)] w fun r w' => r = .returned (.int .i64 n) ∧ ∃ m, w' = w.drewN m := by
  obtain ⟨cb, h⟩ := h.isPol
  cases p with
  | lru s =>
    have c0 : w.cell? ⟨b, 3, none⟩ = some (.func (.func 71) #[.pointer (some ⟨cb, 0, none⟩)] #[]) := Holds.cell (off := 3) h rfl
    have cM := hide (Lru_Len (Holds.p1 h) n hn)
    go_enter Tryz.func314, Tryz.ntmps314
    go_wp2_with (go_at_call 71; (with_reducible refine cM.out.mono ?_); rintro r w1 ⟨rfl, rfl⟩)
    go_ret
    exact ⟨rfl, 0, rfl⟩
  | lfu s =>
    have c0 : w.cell? ⟨b, 3, none⟩ = some (.func (.func 82) #[.pointer (some ⟨cb, 0, none⟩)] #[]) := Holds.cell (off := 3) h rfl
    have cM := hide (Lfu_Len (Holds.p1 h) n hn)
    go_enter Tryz.func314, Tryz.ntmps314
    go_wp2_with (go_at_call 82; (with_reducible refine cM.out.mono ?_); rintro r w1 ⟨rfl, rfl⟩)
    go_ret
    exact ⟨rfl, 0, rfl⟩
  | sr s =>
    have c0 : w.cell? ⟨b, 3, none⟩ = some (.func (.func 93) #[.pointer (some ⟨cb, 0, none⟩)] #[]) := Holds.cell (off := 3) h rfl
    have cM := hide (Sr_Len (Holds.p1 h) n hn hl)
    go_enter Tryz.func314, Tryz.ntmps314
    go_wp2_with (go_at_call 93; (with_reducible refine cM.out.mono ?_); rintro r w1 ⟨rfl, m1, rfl⟩)
    go_ret
    exact ⟨rfl, m1, rfl⟩
theorem Pol_Victim {g w : World} {b : Nat} {kind : Int} {m : Nat} {p : Pol} {F : List SProp} (h : Holds g w (IsPol b kind m p :: F)) (x : ByteArray) (d : Bool) (hx : p.victim = (x, d)) :
    Calls Tryz.prog 323 #[.pointer (some ⟨b, 0, none⟩)] w fun r w' => r = .returned (.tuple #[.string x, .bool d]) ∧ Keep w w' := by
  obtain ⟨cb, h⟩ := h.isPol
  have hx1 := congrArg Prod.fst hx
  have hx2 := congrArg Prod.snd hx
  cases p with
  | lru s =>
    have c0 : w.cell? ⟨b, 7, none⟩ = some (.func (.func 75) #[.pointer (some ⟨cb, 0, none⟩)] #[]) := Holds.cell (off := 7) h rfl
    have cM := hide (Lru_Victim (Holds.p1 h) x hx1 d hx2)
    go_enter Tryz.func323, Tryz.ntmps323
    go_wp2_with (go_at_call 75; (with_reducible refine cM.out.mono ?_); rintro r w1 ⟨rfl, h1⟩; have h1 := hide h1)
    go_ret2
    exact ⟨rfl, h1.out⟩
  | lfu s =>
    have c0 : w.cell? ⟨b, 7, none⟩ = some (.func (.func 86) #[.pointer (some ⟨cb, 0, none⟩)] #[]) := Holds.cell (off := 7) h rfl
    have cM := hide (Lfu_Victim (Holds.p1 h) x hx1 d hx2)
    go_enter Tryz.func323, Tryz.ntmps323
    go_wp2_with (go_at_call 86; (with_reducible refine cM.out.mono ?_); rintro r w1 ⟨rfl, h1⟩; have h1 := hide h1)
    go_ret2
    exact ⟨rfl, h1.out⟩
  | sr s =>
    have c0 : w.cell? ⟨b, 7, none⟩ = some (.func (.func 97) #[.pointer (some ⟨cb, 0, none⟩)] #[]) := Holds.cell (off := 7) h rfl
    have cM := hide (Sr_Victim (Holds.p1 h) x hx1 d hx2)
    go_enter Tryz.func323, Tryz.ntmps323
    go_wp2_with (go_at_call 97; (with_reducible refine cM.out.mono ?_); rintro r w1 ⟨rfl, h1⟩; have h1 := hide h1)
    go_ret2
    exact ⟨rfl, h1.out⟩
theorem Pol_Remove {g w : World} {b : Nat} {kind : Int} {m : Nat} {p : Pol} {F : List SProp} (h : Holds g w (IsPol b kind m p :: F)) (k : ByteArray) (d : Bool) (hd : p.has k = d) :
    Calls Tryz.prog 327 #[.pointer (some ⟨b, 0, none⟩), .string k] w fun r w' => r = .returned (.bool d) ∧ Holds g w' (IsPol b kind m (p.remove k) :: F) := by
  obtain ⟨cb, h⟩ := h.isPol
  cases p with
  | lru s =>
    have c0 : w.cell? ⟨b, 5, none⟩ = some (.func (.func 73) #[.pointer (some ⟨cb, 0, none⟩)] #[]) := Holds.cell (off := 5) h rfl
    have cM := hide (Lru_Remove (Holds.p1 h) k d hd)
    go_enter Tryz.func327, Tryz.ntmps327
    go_wp2_with (go_at_call 73; (with_reducible refine cM.out.mono ?_); rintro r w1 ⟨rfl, h1⟩; have h1 := hide h1)
    go_ret
    exact ⟨rfl, Holds.toPol (p := .lru ⟨s.most, kDel s.ks k⟩) h1.out.p1⟩
  | lfu s =>
    have c0 : w.cell? ⟨b, 5, none⟩ = some (.func (.func 84) #[.pointer (some ⟨cb, 0, none⟩)] #[]) := Holds.cell (off := 5) h rfl
    have cM := hide (Lfu_Remove (Holds.p1 h) k d hd)
    go_enter Tryz.func327, Tryz.ntmps327
    go_wp2_with (go_at_call 84; (with_reducible refine cM.out.mono ?_); rintro r w1 ⟨rfl, h1⟩; have h1 := hide h1)
    go_ret
    exact ⟨rfl, Holds.toPol (p := .lfu (s.remove k)) h1.out.p1⟩
  | sr s =>
    have c0 : w.cell? ⟨b, 5, none⟩ = some (.func (.func 95) #[.pointer (some ⟨cb, 0, none⟩)] #[]) := Holds.cell (off := 5) h rfl
    have cM := hide (Sr_Remove (Holds.p1 h) k d hd)
    go_enter Tryz.func327, Tryz.ntmps327
    go_wp2_with (go_at_call 95; (with_reducible refine cM.out.mono ?_); rintro r w1 ⟨rfl, h1⟩; have h1 := hide h1)
    go_ret
    exact ⟨rfl, Holds.toPol (p := .sr (s.remove k)) h1.out.p1⟩
theorem Pol_Adopt {g w : World} {b : Nat} {kind : Int} {m : Nat} {p : Pol} {F : List SProp} (h : Holds g w (IsPol b kind m p :: F)) (k : ByteArray) (i m' : Nat) (hf : p.Fit i m') (hi : i < 100000) :
    Calls Tryz.prog 310 #[.pointer (some ⟨b, 0, none⟩), .string k] w fun r w' => r = .returned (.bool (p.adopt k).2) ∧ Holds g w' (IsPol b kind m (p.adopt k).1 :: F) := by
  obtain ⟨cb, h⟩ := h.isPol
  cases p with
  | lru s =>
    have hf1 : s.ks.length < 900000 := by have := hf.1; omega
    have c0 : w.cell? ⟨b, 6, none⟩ = some (.func (.func 74) #[.pointer (some ⟨cb, 0, none⟩)] #[]) := Holds.cell (off := 6) h rfl
    have cM := hide (Lru_Adopt (Holds.p1 h) k hf1)
    go_enter Tryz.func310, Tryz.ntmps310
    go_wp2_with (go_at_call 74; (with_reducible refine cM.out.mono ?_); rintro r w1 ⟨rfl, h1⟩; have h1 := hide h1)
    go_ret
    exact ⟨rfl, Holds.toPol (p := .lru (s.adopt k).1) h1.out.p1⟩
  | lfu s =>
    have hf1 : s.srt.length < 900000 := by have := hf.1; omega
    have hf2 : s.now < 100000000000000 := by have := hf.2.1; omega
    have c0 : w.cell? ⟨b, 6, none⟩ = some (.func (.func 85) #[.pointer (some ⟨cb, 0, none⟩)] #[]) := Holds.cell (off := 6) h rfl
    have cM := hide (Lfu_Adopt (Holds.p1 h) k hf1 hf2)
    go_enter Tryz.func310, Tryz.ntmps310
    go_wp2_with (go_at_call 85; (with_reducible refine cM.out.mono ?_); rintro r w1 ⟨rfl, h1⟩; have h1 := hide h1)
    go_ret
    exact ⟨rfl, Holds.toPol (p := .lfu (s.adopt k).1) h1.out.p1⟩
  | sr s =>
    have hf1 : s.n.length + s.a.length < 800000 := by have := Sr.Fit.size hf; unfold Sr.size at this; omega
    have c0 : w.cell? ⟨b, 6, none⟩ = some (.func (.func 96) #[.pointer (some ⟨cb, 0, none⟩)] #[]) := Holds.cell (off := 6) h rfl
    have cM := hide (Sr_Adopt (Holds.p1 h) k hf1)
    go_enter Tryz.func310, Tryz.ntmps310
    go_wp2_with (go_at_call 96; (with_reducible refine cM.out.mono ?_); rintro r w1 ⟨rfl, h1⟩; have h1 := hide h1)
    go_ret
    exact ⟨rfl, Holds.toPol (p := .sr (s.adopt k).1) h1.out.p1⟩
theorem Pol_Keys {g w : World} {b : Nat} {kind : Int} {m : Nat} {p : Pol} {F : List SProp} (h : Holds g w (IsPol b kind m p :: F)) (hp : ∀ s, p ≠ .lfu s) (hl : p.len ≤ 1000000) :
    Calls Tryz.prog 313 #[.pointer (some ⟨b, 0, none⟩)] w fun r w' => ∃ v, r = .returned v ∧ Holds g w' (OwnStrs v p.keys :: IsPol b kind m p :: F) := by
  obtain ⟨cb, h⟩ := h.isPol
  cases p with
  | lru s =>
    have c0 : w.cell? ⟨b, 10, none⟩ = some (.func (.func 78) #[.pointer (some ⟨cb, 0, none⟩)] #[]) := Holds.cell (off := 10) h rfl
    have cM := hide (Lru_Keys (Holds.p1 h) hl)
    go_enter Tryz.func313, Tryz.ntmps313
    go_wp2_with (go_at_call 78; (with_reducible refine cM.out.mono ?_); rintro r w1 ⟨v, rfl, h1⟩; have h1 := hide h1)
    go_ret
    exact ⟨_, rfl, (Holds.toPol (p := .lru s) (h1.out.p1.p2)).p1⟩
  | lfu s => exact absurd rfl (hp s)
  | sr s =>
    have c0 : w.cell? ⟨b, 10, none⟩ = some (.func (.func 100) #[.pointer (some ⟨cb, 0, none⟩)] #[]) := Holds.cell (off := 10) h rfl
    have cM := hide (Sr_Keys (Holds.p1 h) hl)
    go_enter Tryz.func313, Tryz.ntmps313
    go_wp2_with (go_at_call 100; (with_reducible refine cM.out.mono ?_); rintro r w1 ⟨v, rfl, h1⟩; have h1 := hide h1)
    go_ret
    exact ⟨_, rfl, (Holds.toPol (p := .sr s) (h1.out.p1.p2)).p1⟩
theorem Pol_RequestHit {g w : World} {b : Nat} {kind : Int} {m : Nat} {p : Pol} {F : List SProp} (h : Holds g w (IsPol b kind m p :: F)) (k : ByteArray) (i m' : Nat) (hf : p.Fit i m') (hi : i < 100000) (hm : m' ≤ 1000000000) (hh : ∀ q, p = .sr q → q.has k = true) :
    Calls Tryz.prog 316 #[.pointer (some ⟨b, 0, none⟩), .string k] w fun r w' => r = .returned (stepV (p.req k).2) ∧ Holds g w' (IsPol b kind m (p.req k).1 :: F) := by
  obtain ⟨cb, h⟩ := h.isPol
  cases p with
  | lru s =>
    have hf1 : s.ks.length < 900000 := by have := hf.1; omega
    obtain ⟨⟨s', ⟨hit, x, out⟩⟩, hr⟩ : ∃ r, s.req k = r := ⟨_, rfl⟩
    show Calls _ _ _ _ fun r w' => r = .returned (stepV (s.req k).2) ∧ Holds g w' (IsPol b kind m (.lru (s.req k).1) :: F)
    rw [hr]
    dsimp only [stepV]
    have HA := h.alloc (o := .cells #[.bool false, .string ⟨#[]⟩, .bool false] 34)
    have c0 : (w.alloc (.cells #[.bool false, .string ⟨#[]⟩, .bool false] 34)).cell? ⟨b, 4, none⟩ = some (.func (.func 72) #[.pointer (some ⟨cb, 0, none⟩)] #[]) := Holds.cell (off := 4) (Holds.p1 HA) rfl
    obtain ⟨r4, hr4⟩ : ∃ r4, w.heap.size = r4 := ⟨_, rfl⟩
    rw [hr4] at HA
    have cM := hide (by have c := Lru_Request (Holds.p2 HA) k hf1; rw [hr] at c; dsimp only [stepV] at c; exact c)
    clear h HA
    go_enter Tryz.func316, Tryz.ntmps316
    go_upto_region 1 with fail
    try simp only [hr4]
    clear hr4
    go_wp2_with (go_at_call 72; (with_reducible refine cM.out.mono ?_); rintro r w1 ⟨rfl, h1⟩; have h1 := hide h1; obtain ⟨z0, z1, z2⟩ := cells3 (Holds.p1 h1.out); obtain ⟨f0, f1, f2⟩ := free3 (Holds.p1 h1.out))
    have HR := put3 (Holds.p1 h1.out) (.bool hit) (.string x) (.bool out)
    refine bodyPost_ret (ret_step rfl HR rfl) rfl ?_
    exact ⟨rfl, Holds.toPol (p := .lru s') (HR.drop.p1)⟩
  | lfu s =>
    have hf1 : s.srt.length < 900000 := by have := hf.1; omega
    have hf2 : s.now < 100000000000000 := by have := hf.2.1; omega
    obtain ⟨⟨s', ⟨hit, x, out⟩⟩, hr⟩ : ∃ r, s.req k = r := ⟨_, rfl⟩
    show Calls _ _ _ _ fun r w' => r = .returned (stepV (s.req k).2) ∧ Holds g w' (IsPol b kind m (.lfu (s.req k).1) :: F)
    rw [hr]
    dsimp only [stepV]
    have HA := h.alloc (o := .cells #[.bool false, .string ⟨#[]⟩, .bool false] 34)
    have c0 : (w.alloc (.cells #[.bool false, .string ⟨#[]⟩, .bool false] 34)).cell? ⟨b, 4, none⟩ = some (.func (.func 83) #[.pointer (some ⟨cb, 0, none⟩)] #[]) := Holds.cell (off := 4) (Holds.p1 HA) rfl
    obtain ⟨r4, hr4⟩ : ∃ r4, w.heap.size = r4 := ⟨_, rfl⟩
    rw [hr4] at HA
    have cM := hide (by have c := Lfu_Request (Holds.p2 HA) k hf1 hf2; rw [hr] at c; dsimp only [stepV] at c; exact c)
    clear h HA
    go_enter Tryz.func316, Tryz.ntmps316
    go_upto_region 1 with fail
    try simp only [hr4]
    clear hr4
    go_wp2_with (go_at_call 83; (with_reducible refine cM.out.mono ?_); rintro r w1 ⟨rfl, h1⟩; have h1 := hide h1; obtain ⟨z0, z1, z2⟩ := cells3 (Holds.p1 h1.out); obtain ⟨f0, f1, f2⟩ := free3 (Holds.p1 h1.out))
    have HR := put3 (Holds.p1 h1.out) (.bool hit) (.string x) (.bool out)
    refine bodyPost_ret (ret_step rfl HR rfl) rfl ?_
    exact ⟨rfl, Holds.toPol (p := .lfu s') (HR.drop.p1)⟩
  | sr s =>
    have hf1 : s.n.length + s.a.length + s.g.length < 700000 := by have := Sr.Fit.size hf; unfold Sr.size at this; omega
    have hf2 : s.most ≤ 1000000000 ∧ s.target ≤ s.most := by have := Sr.Fit.most hf; have := Sr.Fit.target hf; omega
    obtain ⟨⟨s', ⟨hit, x, out⟩⟩, hr⟩ : ∃ r, s.req k = r := ⟨_, rfl⟩
    show Calls _ _ _ _ fun r w' => r = .returned (stepV (s.req k).2) ∧ Holds g w' (IsPol b kind m (.sr (s.req k).1) :: F)
    rw [hr]
    dsimp only [stepV]
    have HA := h.alloc (o := .cells #[.bool false, .string ⟨#[]⟩, .bool false] 34)
    have c0 : (w.alloc (.cells #[.bool false, .string ⟨#[]⟩, .bool false] 34)).cell? ⟨b, 4, none⟩ = some (.func (.func 94) #[.pointer (some ⟨cb, 0, none⟩)] #[]) := Holds.cell (off := 4) (Holds.p1 HA) rfl
    obtain ⟨r4, hr4⟩ : ∃ r4, w.heap.size = r4 := ⟨_, rfl⟩
    rw [hr4] at HA
    have cM := hide (by have c := Sr_RequestHit (Holds.p2 HA) k hf1 hf2 (hh s rfl); rw [hr] at c; dsimp only [stepV] at c; exact c)
    clear h HA
    go_enter Tryz.func316, Tryz.ntmps316
    go_upto_region 1 with fail
    try simp only [hr4]
    clear hr4
    go_wp2_with (go_at_call 94; (with_reducible refine cM.out.mono ?_); rintro r w1 ⟨rfl, h1⟩; have h1 := hide h1; obtain ⟨z0, z1, z2⟩ := cells3 (Holds.p1 h1.out); obtain ⟨f0, f1, f2⟩ := free3 (Holds.p1 h1.out))
    have HR := put3 (Holds.p1 h1.out) (.bool hit) (.string x) (.bool out)
    refine bodyPost_ret (ret_step rfl HR rfl) rfl ?_
    exact ⟨rfl, Holds.toPol (p := .sr s') (HR.drop.p1)⟩
end Go.Proofs.YtbbdimlpofjlfaaGreatDoor
