/- The policy arc, in memory, behind the policy's own calls. -/
import Derived.Test.YtbbdimlpofjlfaaGreatDoorQPol2
import Derived.Test.YtbbdimlpofjlfaaGreatDoorQArc10
import Derived.Test.YtbbdimlpofjlfaaGreatDoorQArc5
import Derived.Test.YtbbdimlpofjlfaaGreatDoorQHpOrd
import Derived.Test.YtbbdimlpofjlfaaGreatDoorQSr4
import Derived.Test.YtbbdimlpofjlfaaGreatDoorQTwMiss
namespace Go.Proofs.YtbbdimlpofjlfaaGreatDoor
open Go Go.RowKit

def polACells (m : Nat) (cb : Nat) : Array Value := #[.int .i64 4, .int .i64 (m : Nat), mv 103 cb, mv 104 cb, mv 105 cb, mv 106 cb, mv 107 cb, mv 108 cb, mv 109 cb, mv 110 cb, mv 111 cb, mv 112 cb]
/-- The policy arc at block b. -/
def IsPolA (b : Nat) (m : Nat) (s : Arc) : SProp := fun h => ∃ cb, All [pts b (.cells (polACells m cb) 158), IsArc cb s] h
theorem Holds.isPolA {g w : World} {b : Nat} {m : Nat} {s : Arc} {F : List SProp} (h : Holds g w (IsPolA b m s :: F)) : ∃ cb, Holds g w (pts b (.cells (polACells m cb) 158) :: IsArc cb s :: F) := by
  obtain ⟨cb, h⟩ := h.unex
  exact ⟨cb, h.unall⟩
theorem Holds.toPolA {g w : World} {b cb : Nat} {m : Nat} {s : Arc} {F : List SProp} (h : Holds g w (pts b (.cells (polACells m cb) 158) :: IsArc cb s :: F)) : Holds g w (IsPolA b m s :: F) := by
  have h' : Holds g w (All [pts b (.cells (polACells m cb) 158), IsArc cb s] :: F) := Holds.all h
  exact h'.head fun x hx => ⟨cb, hx⟩
set_option maxRecDepth 100000
set_option maxHeartbeats 2000000
theorem PolA_Has {g w : World} {b : Nat} {m : Nat} {s : Arc} {F : List SProp} (h : Holds g w (IsPolA b m s :: F)) (k : ByteArray) (d : Bool) (hd : s.has k = d) :
    Calls Tryz.prog 312 #[.pointer (some ⟨b, 0, none⟩), .string k] w fun r w' => r = .returned (.bool d) ∧ Keep w w' := by
  obtain ⟨cb, h⟩ := h.isPolA
  have c0 : w.cell? ⟨b, 2, none⟩ = some (.func (.func 103) #[.pointer (some ⟨cb, 0, none⟩)] #[]) := Holds.cell (off := 2) h rfl
  have cM := hide (Arc_Has (Holds.p1 h) k d hd)
  go_enter Tryz.func312, Tryz.ntmps312
  go_wp2_with (go_at_call 103; (with_reducible refine cM.out.mono ?_); rintro r w1 ⟨rfl, rfl⟩)
  go_ret
  exact ⟨rfl, Keep.refl _⟩
theorem PolA_Len {g w : World} {b : Nat} {m : Nat} {s : Arc} {F : List SProp} (h : Holds g w (IsPolA b m s :: F)) (n : Nat) (hn : s.len = n) (hl : s.len < 1000000) :
    Calls Tryz.prog 314 #[.pointer (some ⟨b, 0, none⟩)] w fun r w' => r = .returned (.int .i64 n) ∧ ∃ m, w' = w.drewN m := by
  obtain ⟨cb, h⟩ := h.isPolA
  have c0 : w.cell? ⟨b, 3, none⟩ = some (.func (.func 104) #[.pointer (some ⟨cb, 0, none⟩)] #[]) := Holds.cell (off := 3) h rfl
  have cM := hide (Arc_Len (Holds.p1 h) n hn hl)
  go_enter Tryz.func314, Tryz.ntmps314
  go_wp2_with (go_at_call 104; (with_reducible refine cM.out.mono ?_); rintro r w1 ⟨rfl, m1, rfl⟩)
  go_ret
  exact ⟨rfl, m1, rfl⟩
theorem PolA_Victim {g w : World} {b : Nat} {m : Nat} {s : Arc} {F : List SProp} (h : Holds g w (IsPolA b m s :: F)) (x : ByteArray) (d : Bool) (hx : s.victim = (x, d)) :
    Calls Tryz.prog 323 #[.pointer (some ⟨b, 0, none⟩)] w fun r w' => r = .returned (.tuple #[.string x, .bool d]) ∧ Keep w w' := by
  obtain ⟨cb, h⟩ := h.isPolA
  have c0 : w.cell? ⟨b, 7, none⟩ = some (.func (.func 108) #[.pointer (some ⟨cb, 0, none⟩)] #[]) := Holds.cell (off := 7) h rfl
  have cM := hide (Arc_Victim (Holds.p1 h) x d hx)
  go_enter Tryz.func323, Tryz.ntmps323
  go_wp2_with (go_at_call 108; (with_reducible refine cM.out.mono ?_); rintro r w1 ⟨rfl, h1⟩; have h1 := hide h1)
  go_ret2
  exact ⟨rfl, h1.out⟩
theorem PolA_Drop {g w : World} {b : Nat} {m : Nat} {s : Arc} {F : List SProp} (h : Holds g w (IsPolA b m s :: F)) (x : ByteArray) (d : Bool) (hx : s.victim = (x, d)) :
    Calls Tryz.prog 338 #[.pointer (some ⟨b, 0, none⟩)] w fun r w' => r = .returned (.tuple #[.string x, .bool d]) ∧ Holds g w' (IsPolA b m s.drop :: F) := by
  obtain ⟨cb, h⟩ := h.isPolA
  have c0 : w.cell? ⟨b, 8, none⟩ = some (.func (.func 109) #[.pointer (some ⟨cb, 0, none⟩)] #[]) := Holds.cell (off := 8) h rfl
  have cM := hide (Arc_Drop (Holds.p1 h) x d hx)
  go_enter Tryz.func338, Tryz.ntmps338
  go_wp2_with (go_at_call 109; (with_reducible refine cM.out.mono ?_); rintro r w1 ⟨rfl, h1⟩; have h1 := hide h1)
  go_ret2
  exact ⟨rfl, Holds.toPolA h1.out.p1⟩
theorem PolA_Remove {g w : World} {b : Nat} {m : Nat} {s : Arc} {F : List SProp} (h : Holds g w (IsPolA b m s :: F)) (k : ByteArray) (d : Bool) (hd : s.has k = d) :
    Calls Tryz.prog 327 #[.pointer (some ⟨b, 0, none⟩), .string k] w fun r w' => r = .returned (.bool d) ∧ Holds g w' (IsPolA b m (s.off k) :: F) := by
  obtain ⟨cb, h⟩ := h.isPolA
  have c0 : w.cell? ⟨b, 5, none⟩ = some (.func (.func 106) #[.pointer (some ⟨cb, 0, none⟩)] #[]) := Holds.cell (off := 5) h rfl
  have cM := hide (Arc_Remove (Holds.p1 h) k d hd)
  go_enter Tryz.func327, Tryz.ntmps327
  go_wp2_with (go_at_call 106; (with_reducible refine cM.out.mono ?_); rintro r w1 ⟨rfl, h1⟩; have h1 := hide h1)
  go_ret
  exact ⟨rfl, Holds.toPolA h1.out.p1⟩
theorem PolA_Adopt {g w : World} {b : Nat} {m : Nat} {s : Arc} {F : List SProp} (h : Holds g w (IsPolA b m s :: F)) (k : ByteArray) (hl : s.size < 390000) (hmb : s.most ≤ 1000000000) :
    Calls Tryz.prog 310 #[.pointer (some ⟨b, 0, none⟩), .string k] w fun r w' => r = .returned (.bool (s.adopt k).2) ∧ Holds g w' (IsPolA b m (s.adopt k).1 :: F) := by
  obtain ⟨cb, h⟩ := h.isPolA
  have c0 : w.cell? ⟨b, 6, none⟩ = some (.func (.func 107) #[.pointer (some ⟨cb, 0, none⟩)] #[]) := Holds.cell (off := 6) h rfl
  have cM := hide (Arc_Adopt (Holds.p1 h) k hl hmb)
  go_enter Tryz.func310, Tryz.ntmps310
  go_wp2_with (go_at_call 107; (with_reducible refine cM.out.mono ?_); rintro r w1 ⟨rfl, h1⟩; have h1 := hide h1)
  go_ret
  exact ⟨rfl, Holds.toPolA h1.out.p1⟩
theorem PolA_Keys {g w : World} {b : Nat} {m : Nat} {s : Arc} {F : List SProp} (h : Holds g w (IsPolA b m s :: F)) (hl : s.t1.length + s.t2.length ≤ 1000000) :
    Calls Tryz.prog 313 #[.pointer (some ⟨b, 0, none⟩)] w fun r w' => ∃ v, r = .returned v ∧ Holds g w' (OwnStrs v s.keys :: IsPolA b m s :: F) := by
  obtain ⟨cb, h⟩ := h.isPolA
  have c0 : w.cell? ⟨b, 10, none⟩ = some (.func (.func 111) #[.pointer (some ⟨cb, 0, none⟩)] #[]) := Holds.cell (off := 10) h rfl
  have cM := hide (Arc_Keys (Holds.p1 h) hl)
  go_enter Tryz.func313, Tryz.ntmps313
  go_wp2_with (go_at_call 111; (with_reducible refine cM.out.mono ?_); rintro r w1 ⟨v, rfl, h1⟩; have h1 := hide h1)
  go_ret
  exact ⟨_, rfl, (Holds.toPolA h1.out.p1.p2).p1⟩
theorem PolA_Ghosts {g w : World} {b : Nat} {m : Nat} {s : Arc} {F : List SProp} (h : Holds g w (IsPolA b m s :: F)) (hl : s.b1.length + s.b2.length ≤ 2000000) :
    Calls Tryz.prog 339 #[.pointer (some ⟨b, 0, none⟩)] w fun r w' => ∃ v, r = .returned v ∧ Holds g w' (OwnStrs v s.ghosts :: IsPolA b m s :: F) := by
  obtain ⟨cb, h⟩ := h.isPolA
  have c0 : w.cell? ⟨b, 11, none⟩ = some (.func (.func 112) #[.pointer (some ⟨cb, 0, none⟩)] #[]) := Holds.cell (off := 11) h rfl
  have cM := hide (Arc_Ghosts (Holds.p1 h) hl)
  go_enter Tryz.func339, Tryz.ntmps339
  go_wp2_with (go_at_call 112; (with_reducible refine cM.out.mono ?_); rintro r w1 ⟨v, rfl, h1⟩; have h1 := hide h1)
  go_ret
  exact ⟨_, rfl, (Holds.toPolA h1.out.p1.p2).p1⟩
theorem PolA_Request {g w : World} {b : Nat} {m : Nat} {s : Arc} {F : List SProp} (h : Holds g w (IsPolA b m s :: F)) (k : ByteArray) (hl : s.size < 400000) (hmo : s.most ≤ 1000000000 ∧ s.p ≤ 1000000000) :
    Calls Tryz.prog 316 #[.pointer (some ⟨b, 0, none⟩), .string k] w fun r w' => r = .returned (stepV (s.req k).2) ∧ Holds g w' (IsPolA b m (s.req k).1 :: F) := by
  obtain ⟨cb, h⟩ := h.isPolA
  obtain ⟨⟨s', ⟨hit, x, out⟩⟩, hr⟩ : ∃ r, s.req k = r := ⟨_, rfl⟩
  rw [hr]
  dsimp only [stepV]
  have HA := h.alloc (o := .cells #[.bool false, .string ⟨#[]⟩, .bool false] 34)
  have c0 : (w.alloc (.cells #[.bool false, .string ⟨#[]⟩, .bool false] 34)).cell? ⟨b, 4, none⟩ = some (.func (.func 105) #[.pointer (some ⟨cb, 0, none⟩)] #[]) := Holds.cell (off := 4) (Holds.p1 HA) rfl
  obtain ⟨r4, hr4⟩ : ∃ r4, w.heap.size = r4 := ⟨_, rfl⟩
  rw [hr4] at HA
  have cM := hide (by have c := Arc_Request (Holds.p2 HA) k hl hmo; rw [hr] at c; dsimp only [stepV] at c; exact c)
  clear h HA
  go_enter Tryz.func316, Tryz.ntmps316
  go_upto_region 1 with fail
  try simp only [hr4]
  clear hr4
  go_wp2_with (go_at_call 105; (with_reducible refine cM.out.mono ?_); rintro r w1 ⟨rfl, h1⟩; have h1 := hide h1; obtain ⟨z0, z1, z2⟩ := cells3 (Holds.p1 h1.out); obtain ⟨f0, f1, f2⟩ := free3 (Holds.p1 h1.out))
  have HR := put3 (Holds.p1 h1.out) (.bool hit) (.string x) (.bool out)
  refine bodyPost_ret (ret_step rfl HR rfl) rfl ?_
  exact ⟨rfl, Holds.toPolA (s := s') (HR.drop.p1)⟩
theorem PolA_Resize {g w : World} {b : Nat} {m : Nat} {s : Arc} {F : List SProp} (h : Holds g w (IsPolA b m s :: F)) (most : Nat) (hm : most ≤ 16777216) (hl : s.size < 390000) (hmb : s.most ≤ 1000000000 ∧ s.p ≤ 1000000000) :
    Calls Tryz.prog 321 #[.pointer (some ⟨b, 0, none⟩), .int .i64 (most : Nat)] w fun r w' => ∃ v, r = .returned (.tuple #[v, .nilIface]) ∧ Holds g w' (OwnStrs v (s.resize most).2 :: IsPolA b most (s.resize most).1 :: F) := by
  obtain ⟨cb, h⟩ := h.isPolA
  have c1 : w.cell? ⟨b, 1, none⟩ = some (.int .i64 (m : Nat)) := h.cell rfl
  have f1 := Holds.free (off := 1) h
  have HB := setAt h (off := 1) (v := .int .i64 (most : Nat)) (cs' := polACells most cb) rfl
  have c9 : (w.setCell ⟨b, 1, none⟩ (.int .i64 (most : Nat))).cell? ⟨b, 9, none⟩ = some (.func (.func 110) #[.pointer (some ⟨cb, 0, none⟩)] #[]) := Holds.cell (off := 9) HB rfl
  have cM := hide (Arc_Resize (Holds.p1 HB) most (by omega) hl hmb)
  have hm := hide hm
  clear h HB
  go_enter Tryz.func321, Tryz.ntmps321
  go_wp2_with (first
    | (go_at_call 68; (with_reducible refine (Pol_right most hm.out _).mono ?_); rintro r w1 ⟨rfl, rfl⟩)
    | (go_at_call 110; (with_reducible refine cM.out.mono ?_); rintro r w1 ⟨v, rfl, h1⟩; have h1 := hide h1))
  go_ret2
  exact ⟨v, rfl, (Holds.toPolA (h1.out.p1.p2)).p1⟩
theorem PolA_New {g w : World} {F : List SProp} (h : Holds g w F) (m : Nat) (hm : m ≤ 16777216) :
    Calls Tryz.prog 44 #[.int .i64 4, .int .i64 (m : Nat)] w fun r w' => ∃ b, r = .returned (.tuple #[.pointer (some ⟨b, 0, none⟩), .nilIface]) ∧ Holds g w' (IsPolA b m (Arc.new m) :: F) := by
  have h := hide h
  have hmf : ∀ (fn : Fn) (first cap : Array Value) (w : World), (Instr.makeFunc fn first cap).run Tryz.prog w = .ok (.func fn first cap) w := fun _ _ _ _ => rfl
  obtain ⟨pb, hpb⟩ : ∃ pb, w.heap.size = pb := ⟨_, rfl⟩
  have HA := h.out.alloc (o := .cells #[.int .i64 (4 : Int), .int .i64 (m : Nat), .nilFunc, .nilFunc, .nilFunc, .nilFunc, .nilFunc, .nilFunc, .nilFunc, .nilFunc, .nilFunc, .nilFunc] 158)
  rw [hpb] at HA
  have HA := hide HA
  have cN := hide (Arc_New HA.out m (by omega))
  have hm := hide hm
  go_enter Tryz.func44, Tryz.ntmps44
  go_wp2_with (first
    | (go_at_call 68; (with_reducible refine (Pol_right m hm.out _).mono ?_); rintro r w1 ⟨rfl, rfl⟩)
    | (go_at_call 102; (try simp only [hpb]); clear hpb; (with_reducible refine cN.out.mono ?_); rintro r w2 ⟨cb, rfl, h2⟩; have h2 := hide (Holds.p1 h2); obtain ⟨f2, f3, f4, f5, f6, f7, f8, f9, f10, f11⟩ := free12 h2.out; obtain ⟨z2, z3, z4, z5, z6, z7, z8, z9, z10, z11⟩ := cells12 h2.out))
  go_ret2
  refine ⟨pb, rfl, ?_⟩
  exact Holds.toPolA (put10 h2.out _ _ _ _ _ _ _ _ _ _)
end Go.Proofs.YtbbdimlpofjlfaaGreatDoor
/- The policies' other calls, in memory: Drop, Ghosts, Kind, Most, Keys and Request of any. -/
namespace Go.Proofs.YtbbdimlpofjlfaaGreatDoor
open Go Go.RowKit

set_option maxRecDepth 100000
set_option maxHeartbeats 2000000
theorem Pol_Drop {g w : World} {b : Nat} {kind : Int} {m : Nat} {p : Pol} {F : List SProp} (h : Holds g w (IsPol b kind m p :: F)) (x : ByteArray) (d : Bool) (hx : p.victim = (x, d)) :
    Calls Tryz.prog 338 #[.pointer (some ⟨b, 0, none⟩)] w fun r w' => r = .returned (.tuple #[.string x, .bool d]) ∧ Holds g w' (IsPol b kind m p.drop :: F) := by
  obtain ⟨cb, h⟩ := h.isPol
  have hx1 := congrArg Prod.fst hx
  have hx2 := congrArg Prod.snd hx
  cases p with
  | lru s =>
    have c0 : w.cell? ⟨b, 8, none⟩ = some (.func (.func 76) #[.pointer (some ⟨cb, 0, none⟩)] #[]) := Holds.cell (off := 8) h rfl
    have cM := hide (Lru_Drop (Holds.p1 h) x hx1 d hx2)
    go_enter Tryz.func338, Tryz.ntmps338
    go_wp2_with (go_at_call 76; (with_reducible refine cM.out.mono ?_); rintro r w1 ⟨rfl, h1⟩; have h1 := hide h1)
    go_ret2
    exact ⟨rfl, Holds.toPol (p := .lru ⟨s.most, s.ks.dropLast⟩) h1.out.p1⟩
  | lfu s =>
    have c0 : w.cell? ⟨b, 8, none⟩ = some (.func (.func 87) #[.pointer (some ⟨cb, 0, none⟩)] #[]) := Holds.cell (off := 8) h rfl
    have cM := hide (Lfu_Drop (Holds.p1 h) x hx1 d hx2)
    go_enter Tryz.func338, Tryz.ntmps338
    go_wp2_with (go_at_call 87; (with_reducible refine cM.out.mono ?_); rintro r w1 ⟨rfl, h1⟩; have h1 := hide h1)
    go_ret2
    exact ⟨rfl, Holds.toPol (p := .lfu s.pop) h1.out.p1⟩
  | sr s =>
    have c0 : w.cell? ⟨b, 8, none⟩ = some (.func (.func 98) #[.pointer (some ⟨cb, 0, none⟩)] #[]) := Holds.cell (off := 8) h rfl
    have cM := hide (Sr_Drop (Holds.p1 h) x hx1 d hx2)
    go_enter Tryz.func338, Tryz.ntmps338
    go_wp2_with (go_at_call 98; (with_reducible refine cM.out.mono ?_); rintro r w1 ⟨rfl, h1⟩; have h1 := hide h1)
    go_ret2
    exact ⟨rfl, Holds.toPol (p := .sr s.drop) h1.out.p1⟩
theorem Sr_Ghosts {g w : World} {b : Nat} {s : Sr} {F : List SProp} (h : Holds g w (IsSr b s :: F)) :
    Calls Tryz.prog 101 #[.pointer (some ⟨b, 0, none⟩)] w fun r w' => ∃ v, r = .returned v ∧ Holds g w' (OwnStrs v s.g :: IsSr b s :: F) := by
  obtain ⟨nb, ab, gb, mb, h⟩ := h.isSr
  obtain ⟨_, _, _, _, c4, _⟩ := srCells h
  unfold SrRaw at h
  have cK := hide (List_Keys (Holds.p3 h))
  clear h
  go_enter Tryz.func101, Tryz.ntmps101
  go_wp2_with (go_at_call 167; (with_reducible refine cK.out.mono ?_); rintro r w1 ⟨v, rfl, h1⟩; have h1 := hide h1)
  go_ret
  refine ⟨_, rfl, ?_⟩
  have H : Holds g w1 (SrRaw b nb ab gb mb s (OwnStrs v s.g :: F)) := by
    unfold SrRaw
    exact h1.out.p5.p2.p5.p5.p5
  exact (Holds.toSr H).p1
theorem Lru_Ghosts (b : Nat) (w : World) :
    Calls Tryz.prog 79 #[.pointer (some ⟨b, 0, none⟩)] w fun r w' => r = .returned (.slice none 0 0) ∧ w = w' := by
  go_enter Tryz.func79, Tryz.ntmps79
  go_wp2
  go_ret
  exact ⟨rfl, rfl⟩
theorem Lfu_Ghosts (b : Nat) (w : World) :
    Calls Tryz.prog 90 #[.pointer (some ⟨b, 0, none⟩)] w fun r w' => r = .returned (.slice none 0 0) ∧ w = w' := by
  go_enter Tryz.func90, Tryz.ntmps90
  go_wp2
  go_ret
  exact ⟨rfl, rfl⟩
theorem Pol_Ghosts {g w : World} {b : Nat} {kind : Int} {m : Nat} {p : Pol} {F : List SProp} (h : Holds g w (IsPol b kind m p :: F)) :
    Calls Tryz.prog 339 #[.pointer (some ⟨b, 0, none⟩)] w fun r w' => ∃ v, r = .returned v ∧ Holds g w' (OwnStrs v p.ghosts :: IsPol b kind m p :: F) := by
  obtain ⟨cb, h⟩ := h.isPol
  cases p with
  | lru s =>
    have H := hide h
    have c0 : w.cell? ⟨b, 11, none⟩ = some (.func (.func 79) #[.pointer (some ⟨cb, 0, none⟩)] #[]) := Holds.cell (off := 11) h rfl
    have cM := hide (Lru_Ghosts cb w)
    go_enter Tryz.func339, Tryz.ntmps339
    go_wp2_with (go_at_call 79; (with_reducible refine cM.out.mono ?_); rintro r w1 ⟨rfl, rfl⟩)
    go_ret
    exact ⟨_, rfl, (Holds.toPol (p := .lru s) H.out).ownNil 9 1⟩
  | lfu s =>
    have H := hide h
    have c0 : w.cell? ⟨b, 11, none⟩ = some (.func (.func 90) #[.pointer (some ⟨cb, 0, none⟩)] #[]) := Holds.cell (off := 11) h rfl
    have cM := hide (Lfu_Ghosts cb w)
    go_enter Tryz.func339, Tryz.ntmps339
    go_wp2_with (go_at_call 90; (with_reducible refine cM.out.mono ?_); rintro r w1 ⟨rfl, rfl⟩)
    go_ret
    exact ⟨_, rfl, (Holds.toPol (p := .lfu s) H.out).ownNil 9 1⟩
  | sr s =>
    have c0 : w.cell? ⟨b, 11, none⟩ = some (.func (.func 101) #[.pointer (some ⟨cb, 0, none⟩)] #[]) := Holds.cell (off := 11) h rfl
    have cM := hide (Sr_Ghosts (Holds.p1 h))
    go_enter Tryz.func339, Tryz.ntmps339
    go_wp2_with (go_at_call 101; (with_reducible refine cM.out.mono ?_); rintro r w1 ⟨v, rfl, h1⟩; have h1 := hide h1)
    go_ret
    exact ⟨_, rfl, (Holds.toPol (p := .sr s) (h1.out.p1.p2)).p1⟩
theorem Pol_KeysAny {g w : World} {b : Nat} {kind : Int} {m : Nat} {p : Pol} {F : List SProp} (h : Holds g w (IsPol b kind m p :: F)) (hl : p.len ≤ 1000000) :
    Calls Tryz.prog 313 #[.pointer (some ⟨b, 0, none⟩)] w fun r w' => ∃ v, r = .returned v ∧ Holds g w' (OwnStrs v p.keys :: IsPol b kind m p :: F) := by
  cases p with
  | lru s => exact Pol_Keys h (fun _ e => by cases e) hl
  | sr s => exact Pol_Keys h (fun _ e => by cases e) hl
  | lfu s =>
    obtain ⟨cb, h⟩ := h.isPol
    have c0 : w.cell? ⟨b, 10, none⟩ = some (.func (.func 89) #[.pointer (some ⟨cb, 0, none⟩)] #[]) := Holds.cell (off := 10) h rfl
    have cM := hide (Lfu_Keys (Holds.p1 h))
    go_enter Tryz.func313, Tryz.ntmps313
    go_wp2_with (go_at_call 89; (with_reducible refine cM.out.mono ?_); rintro r w1 ⟨v, rfl, h1⟩; have h1 := hide h1)
    go_ret
    exact ⟨_, rfl, (Holds.toPol (p := .lfu s) (h1.out.p1.p2)).p1⟩
theorem Pol_RequestAny {g w : World} {b : Nat} {kind : Int} {m : Nat} {p : Pol} {F : List SProp} (h : Holds g w (IsPol b kind m p :: F)) (k : ByteArray) (i m' : Nat) (hf : p.Fit i m') (hi : i < 100000) (hm : m' ≤ 1000000000) :
    Calls Tryz.prog 316 #[.pointer (some ⟨b, 0, none⟩), .string k] w fun r w' => r = .returned (stepV (p.req k).2) ∧ Holds g w' (IsPol b kind m (p.req k).1 :: F) := by
  cases p with
  | lru s => exact Pol_RequestHit h k i m' hf hi hm (fun _ e => by cases e)
  | lfu s => exact Pol_RequestHit h k i m' hf hi hm (fun _ e => by cases e)
  | sr s =>
    obtain ⟨cb, h⟩ := h.isPol
    have hf1 : s.n.length + s.a.length + s.g.length < 700000 := by have := Sr.Fit.size hf; unfold Sr.size at this; omega
    have hf2 : s.most ≤ 1000000000 ∧ s.target ≤ s.most := by have := Sr.Fit.most hf; have := Sr.Fit.target hf; omega
    obtain ⟨⟨s', ⟨hit, x, out⟩⟩, hr⟩ : ∃ r, s.req k = r := ⟨_, rfl⟩
    show Calls _ _ _ _ fun r w' => r = .returned (stepV (s.req k).2) ∧ Holds g w' (IsPol b kind m (.sr (s.req k).1) :: F)
    rw [hr]
    dsimp only [stepV]
    have HA := h.alloc (o := .cells #[.bool false, .string ⟨#[]⟩, .bool false] 34)
    have c0 : (w.alloc (.cells #[.bool false, .string ⟨#[]⟩, .bool false] 34)).cell? ⟨b, 4, none⟩ = some (.func (.func 94) #[.pointer (some ⟨cb, 0, none⟩)] #[]) := Holds.cell (off := 4) (Holds.p1 HA) rfl
    obtain ⟨r4, hr4⟩ : ∃ r4, w.heap.size = r4 := ⟨_, rfl⟩
    rw [hr4] at HA
    have cM := hide (by have c := Sr_RequestAny (Holds.p2 HA) k hf1 hf2; rw [hr] at c; dsimp only [stepV] at c; exact c)
    clear h HA
    go_enter Tryz.func316, Tryz.ntmps316
    go_upto_region 1 with fail
    try simp only [hr4]
    clear hr4
    go_wp2_with (go_at_call 94; (with_reducible refine cM.out.mono ?_); rintro r w1 ⟨rfl, h1⟩; have h1 := hide h1; obtain ⟨z0, z1, z2⟩ := cells3 (Holds.p1 h1.out); obtain ⟨f0, f1, f2⟩ := free3 (Holds.p1 h1.out))
    have HR := put3 (Holds.p1 h1.out) (.bool hit) (.string x) (.bool out)
    refine bodyPost_ret (ret_step rfl HR rfl) rfl ?_
    exact ⟨rfl, Holds.toPol (p := .sr s') (HR.drop.p1)⟩
theorem Pol_KindAt {b : Nat} {kind : Int} {w : World} (c0 : w.cell? ⟨b, 0, none⟩ = some (.int .i64 kind)) :
    Calls Tryz.prog 340 #[.pointer (some ⟨b, 0, none⟩)] w fun r w' => r = .returned (.int .i64 kind) ∧ w = w' := by
  go_enter Tryz.func340, Tryz.ntmps340
  go_wp2
  go_ret
  exact ⟨rfl, rfl⟩
theorem Pol_MostAt {b : Nat} {m : Nat} {w : World} (c0 : w.cell? ⟨b, 1, none⟩ = some (.int .i64 (m : Nat))) :
    Calls Tryz.prog 341 #[.pointer (some ⟨b, 0, none⟩)] w fun r w' => r = .returned (.int .i64 (m : Nat)) ∧ w = w' := by
  go_enter Tryz.func341, Tryz.ntmps341
  go_wp2
  go_ret
  exact ⟨rfl, rfl⟩
end Go.Proofs.YtbbdimlpofjlfaaGreatDoor
