/- One of the policies, in memory. -/
import Derived.Test.YteledfiechbhgaaGreatDoorQSr4
import Derived.Test.YteledfiechbhgaaGreatDoorQLru1
import Derived.Test.YteledfiechbhgaaGreatDoorQLfu1
import Derived.Test.YteledfiechbhgaaGreatDoorQTwLearn
namespace Go.Proofs.YteledfiechbhgaaGreatDoor
open Go Go.RowKit

/-- A method of what lies at a block. -/
def mv (f : FuncId) (cb : Nat) : Value := .func (.func f) #[.pointer (some ⟨cb, 0, none⟩)] #[]
def polCells (kind : Int) (m : Nat) (cb : Nat) : Pol → Array Value
  | .lru _ => #[.int .i64 kind, .int .i64 (m : Nat), mv 106 cb, mv 107 cb, mv 108 cb, mv 109 cb, mv 110 cb, mv 111 cb, mv 112 cb, mv 113 cb, mv 114 cb, mv 115 cb]
  | .lfu _ => #[.int .i64 kind, .int .i64 (m : Nat), mv 117 cb, mv 118 cb, mv 119 cb, mv 120 cb, mv 121 cb, mv 122 cb, mv 123 cb, mv 124 cb, mv 125 cb, mv 126 cb]
  | .sr _ => #[.int .i64 kind, .int .i64 (m : Nat), mv 128 cb, mv 129 cb, mv 130 cb, mv 131 cb, mv 132 cb, mv 133 cb, mv 134 cb, mv 135 cb, mv 136 cb, mv 137 cb]
def PolCore (cb : Nat) : Pol → SProp
  | .lru s => IsLru cb s
  | .lfu s => IsLfu cb s
  | .sr s => IsSr cb s
/-- A policy at block b. -/
def IsPol (b : Nat) (kind : Int) (m : Nat) (p : Pol) : SProp := fun h => ∃ cb, All [pts b (.cells (polCells kind m cb p) 147), PolCore cb p] h
theorem Holds.isPol {g w : World} {b : Nat} {kind : Int} {m : Nat} {p : Pol} {F : List SProp} (h : Holds g w (IsPol b kind m p :: F)) : ∃ cb, Holds g w (pts b (.cells (polCells kind m cb p) 147) :: PolCore cb p :: F) := by
  obtain ⟨cb, h⟩ := h.unex
  exact ⟨cb, h.unall⟩
theorem Holds.toPol {g w : World} {b cb : Nat} {kind : Int} {m : Nat} {p : Pol} {F : List SProp} (h : Holds g w (pts b (.cells (polCells kind m cb p) 147) :: PolCore cb p :: F)) : Holds g w (IsPol b kind m p :: F) := by
  have h' : Holds g w (All [pts b (.cells (polCells kind m cb p) 147), PolCore cb p] :: F) := Holds.all h
  exact h'.head fun x hx => ⟨cb, hx⟩
theorem pcells {g w : World} {b cb : Nat} {kind : Int} {m : Nat} {p : Pol} {F : List SProp} (h : Holds g w (pts b (.cells (polCells kind m cb p) 147) :: F)) :
    w.cell? ⟨b, 0, none⟩ = some (.int .i64 kind) ∧ w.cell? ⟨b, 1, none⟩ = some (.int .i64 (m : Nat)) := by
  cases p <;> exact ⟨h.cell rfl, h.cell rfl⟩
set_option maxRecDepth 100000
set_option maxHeartbeats 1000000
theorem Pol_Has {g w : World} {b : Nat} {kind : Int} {m : Nat} {p : Pol} {F : List SProp} (h : Holds g w (IsPol b kind m p :: F)) (k : ByteArray) (d : Bool) (hd : p.has k = d) :
    Calls Tryz.prog 59 #[.pointer (some ⟨b, 0, none⟩), .string k] w fun r w' => r = .returned (.bool d) ∧ Keep w w' := by
  obtain ⟨cb, h⟩ := h.isPol
  cases p with
  | lru s =>
    have c0 : w.cell? ⟨b, 2, none⟩ = some (.func (.func 106) #[.pointer (some ⟨cb, 0, none⟩)] #[]) := Holds.cell (off := 2) h rfl
    have cM := hide (Lru_Has (Holds.p1 h) k d hd)
    go_enter Tryz.func59, Tryz.ntmps59
    go_wp2_with (go_at_call 106; (with_reducible refine cM.out.mono ?_); rintro r w1 ⟨rfl, rfl⟩)
    go_ret
    exact ⟨rfl, Keep.refl _⟩
  | lfu s =>
    have c0 : w.cell? ⟨b, 2, none⟩ = some (.func (.func 117) #[.pointer (some ⟨cb, 0, none⟩)] #[]) := Holds.cell (off := 2) h rfl
    have cM := hide (Lfu_Has (Holds.p1 h) k d hd)
    go_enter Tryz.func59, Tryz.ntmps59
    go_wp2_with (go_at_call 117; (with_reducible refine cM.out.mono ?_); rintro r w1 ⟨rfl, h1⟩; have h1 := hide h1)
    go_ret
    exact ⟨rfl, h1.out⟩
  | sr s =>
    have c0 : w.cell? ⟨b, 2, none⟩ = some (.func (.func 128) #[.pointer (some ⟨cb, 0, none⟩)] #[]) := Holds.cell (off := 2) h rfl
    have cM := hide (Sr_Has (Holds.p1 h) k d hd)
    go_enter Tryz.func59, Tryz.ntmps59
    go_wp2_with (go_at_call 128; (with_reducible refine cM.out.mono ?_); rintro r w1 ⟨rfl, rfl⟩)
    go_ret
    exact ⟨rfl, Keep.refl _⟩
theorem Pol_Len {g w : World} {b : Nat} {kind : Int} {m : Nat} {p : Pol} {F : List SProp} (h : Holds g w (IsPol b kind m p :: F)) (n : Nat) (hn : p.len = n) (hl : p.len < 1000000) :
    Calls Tryz.prog 54 #[.pointer (some ⟨b, 0, none⟩)] w fun r w' => r = .returned (.int .i64 n) ∧ ∃ m, w' = w.drewN m := by
  obtain ⟨cb, h⟩ := h.isPol
  cases p with
  | lru s =>
    have c0 : w.cell? ⟨b, 3, none⟩ = some (.func (.func 107) #[.pointer (some ⟨cb, 0, none⟩)] #[]) := Holds.cell (off := 3) h rfl
    have cM := hide (Lru_Len (Holds.p1 h) n hn)
    go_enter Tryz.func54, Tryz.ntmps54
    go_wp2_with (go_at_call 107; (with_reducible refine cM.out.mono ?_); rintro r w1 ⟨rfl, rfl⟩)
    go_ret
    exact ⟨rfl, 0, rfl⟩
  | lfu s =>
    have c0 : w.cell? ⟨b, 3, none⟩ = some (.func (.func 118) #[.pointer (some ⟨cb, 0, none⟩)] #[]) := Holds.cell (off := 3) h rfl
    have cM := hide (Lfu_Len (Holds.p1 h) n hn)
    go_enter Tryz.func54, Tryz.ntmps54
    go_wp2_with (go_at_call 118; (with_reducible refine cM.out.mono ?_); rintro r w1 ⟨rfl, rfl⟩)
    go_ret
    exact ⟨rfl, 0, rfl⟩
  | sr s =>
    have c0 : w.cell? ⟨b, 3, none⟩ = some (.func (.func 129) #[.pointer (some ⟨cb, 0, none⟩)] #[]) := Holds.cell (off := 3) h rfl
    have cM := hide (Sr_Len (Holds.p1 h) n hn hl)
    go_enter Tryz.func54, Tryz.ntmps54
    go_wp2_with (go_at_call 129; (with_reducible refine cM.out.mono ?_); rintro r w1 ⟨rfl, m1, rfl⟩)
    go_ret
    exact ⟨rfl, m1, rfl⟩
theorem Pol_Victim {g w : World} {b : Nat} {kind : Int} {m : Nat} {p : Pol} {F : List SProp} (h : Holds g w (IsPol b kind m p :: F)) (x : ByteArray) (d : Bool) (hx : p.victim = (x, d)) :
    Calls Tryz.prog 84 #[.pointer (some ⟨b, 0, none⟩)] w fun r w' => r = .returned (.tuple #[.string x, .bool d]) ∧ Keep w w' := by
  obtain ⟨cb, h⟩ := h.isPol
  have hx1 := congrArg Prod.fst hx
  have hx2 := congrArg Prod.snd hx
  cases p with
  | lru s =>
    have c0 : w.cell? ⟨b, 7, none⟩ = some (.func (.func 111) #[.pointer (some ⟨cb, 0, none⟩)] #[]) := Holds.cell (off := 7) h rfl
    have cM := hide (Lru_Victim (Holds.p1 h) x hx1 d hx2)
    go_enter Tryz.func84, Tryz.ntmps84
    go_wp2_with (go_at_call 111; (with_reducible refine cM.out.mono ?_); rintro r w1 ⟨rfl, h1⟩; have h1 := hide h1)
    go_ret2
    exact ⟨rfl, h1.out⟩
  | lfu s =>
    have c0 : w.cell? ⟨b, 7, none⟩ = some (.func (.func 122) #[.pointer (some ⟨cb, 0, none⟩)] #[]) := Holds.cell (off := 7) h rfl
    have cM := hide (Lfu_Victim (Holds.p1 h) x hx1 d hx2)
    go_enter Tryz.func84, Tryz.ntmps84
    go_wp2_with (go_at_call 122; (with_reducible refine cM.out.mono ?_); rintro r w1 ⟨rfl, h1⟩; have h1 := hide h1)
    go_ret2
    exact ⟨rfl, h1.out⟩
  | sr s =>
    have c0 : w.cell? ⟨b, 7, none⟩ = some (.func (.func 133) #[.pointer (some ⟨cb, 0, none⟩)] #[]) := Holds.cell (off := 7) h rfl
    have cM := hide (Sr_Victim (Holds.p1 h) x hx1 d hx2)
    go_enter Tryz.func84, Tryz.ntmps84
    go_wp2_with (go_at_call 133; (with_reducible refine cM.out.mono ?_); rintro r w1 ⟨rfl, h1⟩; have h1 := hide h1)
    go_ret2
    exact ⟨rfl, h1.out⟩
theorem Pol_Remove {g w : World} {b : Nat} {kind : Int} {m : Nat} {p : Pol} {F : List SProp} (h : Holds g w (IsPol b kind m p :: F)) (k : ByteArray) (d : Bool) (hd : p.has k = d) :
    Calls Tryz.prog 98 #[.pointer (some ⟨b, 0, none⟩), .string k] w fun r w' => r = .returned (.bool d) ∧ Holds g w' (IsPol b kind m (p.remove k) :: F) := by
  obtain ⟨cb, h⟩ := h.isPol
  cases p with
  | lru s =>
    have c0 : w.cell? ⟨b, 5, none⟩ = some (.func (.func 109) #[.pointer (some ⟨cb, 0, none⟩)] #[]) := Holds.cell (off := 5) h rfl
    have cM := hide (Lru_Remove (Holds.p1 h) k d hd)
    go_enter Tryz.func98, Tryz.ntmps98
    go_wp2_with (go_at_call 109; (with_reducible refine cM.out.mono ?_); rintro r w1 ⟨rfl, h1⟩; have h1 := hide h1)
    go_ret
    exact ⟨rfl, Holds.toPol (p := .lru ⟨s.most, kDel s.ks k⟩) h1.out.p1⟩
  | lfu s =>
    have c0 : w.cell? ⟨b, 5, none⟩ = some (.func (.func 120) #[.pointer (some ⟨cb, 0, none⟩)] #[]) := Holds.cell (off := 5) h rfl
    have cM := hide (Lfu_Remove (Holds.p1 h) k d hd)
    go_enter Tryz.func98, Tryz.ntmps98
    go_wp2_with (go_at_call 120; (with_reducible refine cM.out.mono ?_); rintro r w1 ⟨rfl, h1⟩; have h1 := hide h1)
    go_ret
    exact ⟨rfl, Holds.toPol (p := .lfu (s.remove k)) h1.out.p1⟩
  | sr s =>
    have c0 : w.cell? ⟨b, 5, none⟩ = some (.func (.func 131) #[.pointer (some ⟨cb, 0, none⟩)] #[]) := Holds.cell (off := 5) h rfl
    have cM := hide (Sr_Remove (Holds.p1 h) k d hd)
    go_enter Tryz.func98, Tryz.ntmps98
    go_wp2_with (go_at_call 131; (with_reducible refine cM.out.mono ?_); rintro r w1 ⟨rfl, h1⟩; have h1 := hide h1)
    go_ret
    exact ⟨rfl, Holds.toPol (p := .sr (s.remove k)) h1.out.p1⟩
theorem Pol_Adopt {g w : World} {b : Nat} {kind : Int} {m : Nat} {p : Pol} {F : List SProp} (h : Holds g w (IsPol b kind m p :: F)) (k : ByteArray) (i m' : Nat) (hf : p.Fit i m') (hi : i < 100000) :
    Calls Tryz.prog 52 #[.pointer (some ⟨b, 0, none⟩), .string k] w fun r w' => r = .returned (.bool (p.adopt k).2) ∧ Holds g w' (IsPol b kind m (p.adopt k).1 :: F) := by
  obtain ⟨cb, h⟩ := h.isPol
  cases p with
  | lru s =>
    have hf1 : s.ks.length < 900000 := by have := hf.1; omega
    have c0 : w.cell? ⟨b, 6, none⟩ = some (.func (.func 110) #[.pointer (some ⟨cb, 0, none⟩)] #[]) := Holds.cell (off := 6) h rfl
    have cM := hide (Lru_Adopt (Holds.p1 h) k hf1)
    go_enter Tryz.func52, Tryz.ntmps52
    go_wp2_with (go_at_call 110; (with_reducible refine cM.out.mono ?_); rintro r w1 ⟨rfl, h1⟩; have h1 := hide h1)
    go_ret
    exact ⟨rfl, Holds.toPol (p := .lru (s.adopt k).1) h1.out.p1⟩
  | lfu s =>
    have hf1 : s.srt.length < 900000 := by have := hf.1; omega
    have hf2 : s.now < 100000000000000 := by have := hf.2.1; omega
    have c0 : w.cell? ⟨b, 6, none⟩ = some (.func (.func 121) #[.pointer (some ⟨cb, 0, none⟩)] #[]) := Holds.cell (off := 6) h rfl
    have cM := hide (Lfu_Adopt (Holds.p1 h) k hf1 hf2)
    go_enter Tryz.func52, Tryz.ntmps52
    go_wp2_with (go_at_call 121; (with_reducible refine cM.out.mono ?_); rintro r w1 ⟨rfl, h1⟩; have h1 := hide h1)
    go_ret
    exact ⟨rfl, Holds.toPol (p := .lfu (s.adopt k).1) h1.out.p1⟩
  | sr s =>
    have hf1 : s.n.length + s.a.length < 800000 := by have := Sr.Fit.size hf; unfold Sr.size at this; omega
    have c0 : w.cell? ⟨b, 6, none⟩ = some (.func (.func 132) #[.pointer (some ⟨cb, 0, none⟩)] #[]) := Holds.cell (off := 6) h rfl
    have cM := hide (Sr_Adopt (Holds.p1 h) k hf1)
    go_enter Tryz.func52, Tryz.ntmps52
    go_wp2_with (go_at_call 132; (with_reducible refine cM.out.mono ?_); rintro r w1 ⟨rfl, h1⟩; have h1 := hide h1)
    go_ret
    exact ⟨rfl, Holds.toPol (p := .sr (s.adopt k).1) h1.out.p1⟩
theorem Pol_Keys {g w : World} {b : Nat} {kind : Int} {m : Nat} {p : Pol} {F : List SProp} (h : Holds g w (IsPol b kind m p :: F)) (hp : ∀ s, p ≠ .lfu s) (hl : p.len ≤ 1000000) :
    Calls Tryz.prog 55 #[.pointer (some ⟨b, 0, none⟩)] w fun r w' => ∃ v, r = .returned v ∧ Holds g w' (OwnStrs v p.keys :: IsPol b kind m p :: F) := by
  obtain ⟨cb, h⟩ := h.isPol
  cases p with
  | lru s =>
    have c0 : w.cell? ⟨b, 10, none⟩ = some (.func (.func 114) #[.pointer (some ⟨cb, 0, none⟩)] #[]) := Holds.cell (off := 10) h rfl
    have cM := hide (Lru_Keys (Holds.p1 h) hl)
    go_enter Tryz.func55, Tryz.ntmps55
    go_wp2_with (go_at_call 114; (with_reducible refine cM.out.mono ?_); rintro r w1 ⟨v, rfl, h1⟩; have h1 := hide h1)
    go_ret
    exact ⟨_, rfl, (Holds.toPol (p := .lru s) (h1.out.p1.p2)).p1⟩
  | lfu s => exact absurd rfl (hp s)
  | sr s =>
    have c0 : w.cell? ⟨b, 10, none⟩ = some (.func (.func 136) #[.pointer (some ⟨cb, 0, none⟩)] #[]) := Holds.cell (off := 10) h rfl
    have cM := hide (Sr_Keys (Holds.p1 h) hl)
    go_enter Tryz.func55, Tryz.ntmps55
    go_wp2_with (go_at_call 136; (with_reducible refine cM.out.mono ?_); rintro r w1 ⟨v, rfl, h1⟩; have h1 := hide h1)
    go_ret
    exact ⟨_, rfl, (Holds.toPol (p := .sr s) (h1.out.p1.p2)).p1⟩
theorem Pol_RequestHit {g w : World} {b : Nat} {kind : Int} {m : Nat} {p : Pol} {F : List SProp} (h : Holds g w (IsPol b kind m p :: F)) (k : ByteArray) (i m' : Nat) (hf : p.Fit i m') (hi : i < 100000) (hm : m' ≤ 1000000000) (hh : ∀ q, p = .sr q → q.has k = true) :
    Calls Tryz.prog 48 #[.pointer (some ⟨b, 0, none⟩), .string k] w fun r w' => r = .returned (stepV (p.req k).2) ∧ Holds g w' (IsPol b kind m (p.req k).1 :: F) := by
  obtain ⟨cb, h⟩ := h.isPol
  cases p with
  | lru s =>
    have hf1 : s.ks.length < 900000 := by have := hf.1; omega
    obtain ⟨⟨s', ⟨hit, x, out⟩⟩, hr⟩ : ∃ r, s.req k = r := ⟨_, rfl⟩
    show Calls _ _ _ _ fun r w' => r = .returned (stepV (s.req k).2) ∧ Holds g w' (IsPol b kind m (.lru (s.req k).1) :: F)
    rw [hr]
    dsimp only [stepV]
    have HA := h.alloc (o := .cells #[.bool false, .string ⟨#[]⟩, .bool false] 36)
    have c0 : (w.alloc (.cells #[.bool false, .string ⟨#[]⟩, .bool false] 36)).cell? ⟨b, 4, none⟩ = some (.func (.func 108) #[.pointer (some ⟨cb, 0, none⟩)] #[]) := Holds.cell (off := 4) (Holds.p1 HA) rfl
    obtain ⟨r4, hr4⟩ : ∃ r4, w.heap.size = r4 := ⟨_, rfl⟩
    rw [hr4] at HA
    have cM := hide (by have c := Lru_Request (Holds.p2 HA) k hf1; rw [hr] at c; dsimp only [stepV] at c; exact c)
    clear h HA
    go_enter Tryz.func48, Tryz.ntmps48
    go_upto_region 1 with fail
    try simp only [hr4]
    clear hr4
    go_wp2_with (go_at_call 108; (with_reducible refine cM.out.mono ?_); rintro r w1 ⟨rfl, h1⟩; have h1 := hide h1; obtain ⟨z0, z1, z2⟩ := cells3 (Holds.p1 h1.out); obtain ⟨f0, f1, f2⟩ := free3 (Holds.p1 h1.out))
    have HR := put3 (Holds.p1 h1.out) (.bool hit) (.string x) (.bool out)
    refine bodyPost_ret (ret_step rfl HR rfl) rfl ?_
    exact ⟨rfl, Holds.toPol (p := .lru s') (HR.drop.p1)⟩
  | lfu s =>
    have hf1 : s.srt.length < 900000 := by have := hf.1; omega
    have hf2 : s.now < 100000000000000 := by have := hf.2.1; omega
    obtain ⟨⟨s', ⟨hit, x, out⟩⟩, hr⟩ : ∃ r, s.req k = r := ⟨_, rfl⟩
    show Calls _ _ _ _ fun r w' => r = .returned (stepV (s.req k).2) ∧ Holds g w' (IsPol b kind m (.lfu (s.req k).1) :: F)
    rw [hr]
    dsimp only [stepV]
    have HA := h.alloc (o := .cells #[.bool false, .string ⟨#[]⟩, .bool false] 36)
    have c0 : (w.alloc (.cells #[.bool false, .string ⟨#[]⟩, .bool false] 36)).cell? ⟨b, 4, none⟩ = some (.func (.func 119) #[.pointer (some ⟨cb, 0, none⟩)] #[]) := Holds.cell (off := 4) (Holds.p1 HA) rfl
    obtain ⟨r4, hr4⟩ : ∃ r4, w.heap.size = r4 := ⟨_, rfl⟩
    rw [hr4] at HA
    have cM := hide (by have c := Lfu_Request (Holds.p2 HA) k hf1 hf2; rw [hr] at c; dsimp only [stepV] at c; exact c)
    clear h HA
    go_enter Tryz.func48, Tryz.ntmps48
    go_upto_region 1 with fail
    try simp only [hr4]
    clear hr4
    go_wp2_with (go_at_call 119; (with_reducible refine cM.out.mono ?_); rintro r w1 ⟨rfl, h1⟩; have h1 := hide h1; obtain ⟨z0, z1, z2⟩ := cells3 (Holds.p1 h1.out); obtain ⟨f0, f1, f2⟩ := free3 (Holds.p1 h1.out))
    have HR := put3 (Holds.p1 h1.out) (.bool hit) (.string x) (.bool out)
    refine bodyPost_ret (ret_step rfl HR rfl) rfl ?_
    exact ⟨rfl, Holds.toPol (p := .lfu s') (HR.drop.p1)⟩
  | sr s =>
    have hf1 : s.n.length + s.a.length + s.g.length < 700000 := by have := Sr.Fit.size hf; unfold Sr.size at this; omega
    have hf2 : s.most ≤ 1000000000 ∧ s.target ≤ s.most := by have := Sr.Fit.most hf; have := Sr.Fit.target hf; omega
    obtain ⟨⟨s', ⟨hit, x, out⟩⟩, hr⟩ : ∃ r, s.req k = r := ⟨_, rfl⟩
    show Calls _ _ _ _ fun r w' => r = .returned (stepV (s.req k).2) ∧ Holds g w' (IsPol b kind m (.sr (s.req k).1) :: F)
    rw [hr]
    dsimp only [stepV]
    have HA := h.alloc (o := .cells #[.bool false, .string ⟨#[]⟩, .bool false] 36)
    have c0 : (w.alloc (.cells #[.bool false, .string ⟨#[]⟩, .bool false] 36)).cell? ⟨b, 4, none⟩ = some (.func (.func 130) #[.pointer (some ⟨cb, 0, none⟩)] #[]) := Holds.cell (off := 4) (Holds.p1 HA) rfl
    obtain ⟨r4, hr4⟩ : ∃ r4, w.heap.size = r4 := ⟨_, rfl⟩
    rw [hr4] at HA
    have cM := hide (by have c := Sr_RequestHit (Holds.p2 HA) k hf1 hf2 (hh s rfl); rw [hr] at c; dsimp only [stepV] at c; exact c)
    clear h HA
    go_enter Tryz.func48, Tryz.ntmps48
    go_upto_region 1 with fail
    try simp only [hr4]
    clear hr4
    go_wp2_with (go_at_call 130; (with_reducible refine cM.out.mono ?_); rintro r w1 ⟨rfl, h1⟩; have h1 := hide h1; obtain ⟨z0, z1, z2⟩ := cells3 (Holds.p1 h1.out); obtain ⟨f0, f1, f2⟩ := free3 (Holds.p1 h1.out))
    have HR := put3 (Holds.p1 h1.out) (.bool hit) (.string x) (.bool out)
    refine bodyPost_ret (ret_step rfl HR rfl) rfl ?_
    exact ⟨rfl, Holds.toPol (p := .sr s') (HR.drop.p1)⟩
end Go.Proofs.YteledfiechbhgaaGreatDoor
