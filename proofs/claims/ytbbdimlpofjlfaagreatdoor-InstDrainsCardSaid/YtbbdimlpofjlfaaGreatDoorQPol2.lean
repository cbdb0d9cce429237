/- One of the policies, in memory: New, Resize. -/
import Derived.Test.YtbbdimlpofjlfaaGreatDoorQPol1
import Derived.Laws.EntriesVeiled
import Derived.Test.YtbbdimlpofjlfaaGreatDoorQErr
namespace Go.Proofs.YtbbdimlpofjlfaaGreatDoor
open Go Go.RowKit

set_option maxRecDepth 100000
set_option maxHeartbeats 2000000
theorem Pol_right (m : Nat) (hm : m ≤ 16777216) (w : World) : Calls Tryz.prog 68 #[.int .i64 (m : Nat)] w fun r w' => r = .returned (.bool true) ∧ w = w' := by
  have h0 : (0 : Int) ≤ (m : Int) := by omega
  have h1 : (m : Int) ≤ 16777216 := by omega
  go_enter Tryz.func68, Tryz.ntmps68
  go_wp2
  go_ret
  exact ⟨rfl, rfl⟩
theorem free12 {g w : World} {b : Nat} {cs : Array Value} {t : TypeId} {F : List SProp} (h : Holds g w (pts b (.cells cs t) :: F)) :
    w.frozen? ⟨b, 2, none⟩ = false ∧ w.frozen? ⟨b, 3, none⟩ = false ∧ w.frozen? ⟨b, 4, none⟩ = false ∧ w.frozen? ⟨b, 5, none⟩ = false ∧ w.frozen? ⟨b, 6, none⟩ = false ∧ w.frozen? ⟨b, 7, none⟩ = false ∧ w.frozen? ⟨b, 8, none⟩ = false ∧ w.frozen? ⟨b, 9, none⟩ = false ∧ w.frozen? ⟨b, 10, none⟩ = false ∧ w.frozen? ⟨b, 11, none⟩ = false := ⟨h.free, h.free, h.free, h.free, h.free, h.free, h.free, h.free, h.free, h.free⟩
theorem cells12 {g w : World} {b : Nat} {t : TypeId} {F : List SProp} {a0 a1 u2 u3 u4 u5 u6 u7 u8 u9 u10 u11 : Value} (h : Holds g w (pts b (.cells #[a0, a1, u2, u3, u4, u5, u6, u7, u8, u9, u10, u11] t) :: F)) :
    w.cell? ⟨b, 2, none⟩ = some u2 ∧ w.cell? ⟨b, 3, none⟩ = some u3 ∧ w.cell? ⟨b, 4, none⟩ = some u4 ∧ w.cell? ⟨b, 5, none⟩ = some u5 ∧ w.cell? ⟨b, 6, none⟩ = some u6 ∧ w.cell? ⟨b, 7, none⟩ = some u7 ∧ w.cell? ⟨b, 8, none⟩ = some u8 ∧ w.cell? ⟨b, 9, none⟩ = some u9 ∧ w.cell? ⟨b, 10, none⟩ = some u10 ∧ w.cell? ⟨b, 11, none⟩ = some u11 := ⟨h.cell rfl, h.cell rfl, h.cell rfl, h.cell rfl, h.cell rfl, h.cell rfl, h.cell rfl, h.cell rfl, h.cell rfl, h.cell rfl⟩
theorem put10 {g w : World} {b : Nat} {t : TypeId} {F : List SProp} {a0 a1 u2 u3 u4 u5 u6 u7 u8 u9 u10 u11 : Value} (h : Holds g w (pts b (.cells #[a0, a1, u2, u3, u4, u5, u6, u7, u8, u9, u10, u11] t) :: F)) (v2 v3 v4 v5 v6 v7 v8 v9 v10 v11 : Value) :
    Holds g ((((((((((w.setCell ⟨b, 2, none⟩ v2).setCell ⟨b, 3, none⟩ v3).setCell ⟨b, 4, none⟩ v4).setCell ⟨b, 5, none⟩ v5).setCell ⟨b, 6, none⟩ v6).setCell ⟨b, 7, none⟩ v7).setCell ⟨b, 8, none⟩ v8).setCell ⟨b, 9, none⟩ v9).setCell ⟨b, 10, none⟩ v10).setCell ⟨b, 11, none⟩ v11) (pts b (.cells #[a0, a1, v2, v3, v4, v5, v6, v7, v8, v9, v10, v11] t) :: F) := by
  have h2 := setAt h (off := 2) (v := v2) (cs' := #[a0, a1, v2, u3, u4, u5, u6, u7, u8, u9, u10, u11]) rfl
  have h3 := setAt h2 (off := 3) (v := v3) (cs' := #[a0, a1, v2, v3, u4, u5, u6, u7, u8, u9, u10, u11]) rfl
  have h4 := setAt h3 (off := 4) (v := v4) (cs' := #[a0, a1, v2, v3, v4, u5, u6, u7, u8, u9, u10, u11]) rfl
  have h5 := setAt h4 (off := 5) (v := v5) (cs' := #[a0, a1, v2, v3, v4, v5, u6, u7, u8, u9, u10, u11]) rfl
  have h6 := setAt h5 (off := 6) (v := v6) (cs' := #[a0, a1, v2, v3, v4, v5, v6, u7, u8, u9, u10, u11]) rfl
  have h7 := setAt h6 (off := 7) (v := v7) (cs' := #[a0, a1, v2, v3, v4, v5, v6, v7, u8, u9, u10, u11]) rfl
  have h8 := setAt h7 (off := 8) (v := v8) (cs' := #[a0, a1, v2, v3, v4, v5, v6, v7, v8, u9, u10, u11]) rfl
  have h9 := setAt h8 (off := 9) (v := v9) (cs' := #[a0, a1, v2, v3, v4, v5, v6, v7, v8, v9, u10, u11]) rfl
  have h10 := setAt h9 (off := 10) (v := v10) (cs' := #[a0, a1, v2, v3, v4, v5, v6, v7, v8, v9, v10, u11]) rfl
  exact setAt h10 (off := 11) (v := v11) rfl
theorem Pol_New_lru {g w : World} {F : List SProp} (h : Holds g w F) (m : Nat) (hm : m ≤ 16777216) :
    Calls Tryz.prog 44 #[.int .i64 0, .int .i64 (m : Nat)] w fun r w' => ∃ b, r = .returned (.tuple #[.pointer (some ⟨b, 0, none⟩), .nilIface]) ∧ Holds g w' (IsPol b 0 m (.lru ⟨m, []⟩) :: F) := by
  have h := hide h
  have hmf : ∀ (fn : Fn) (first cap : Array Value) (w : World), (Instr.makeFunc fn first cap).run Tryz.prog w = .ok (.func fn first cap) w := fun _ _ _ _ => rfl
  obtain ⟨pb, hpb⟩ : ∃ pb, w.heap.size = pb := ⟨_, rfl⟩
  have HA := h.out.alloc (o := .cells #[.int .i64 (0 : Int), .int .i64 (m : Nat), .nilFunc, .nilFunc, .nilFunc, .nilFunc, .nilFunc, .nilFunc, .nilFunc, .nilFunc, .nilFunc, .nilFunc] 158)
  rw [hpb] at HA
  have HA := hide HA
  have cN := hide (Lru_New HA.out m (by omega))
  have hm := hide hm
  go_enter Tryz.func44, Tryz.ntmps44
  go_wp2_with (first
    | (go_at_call 68; (with_reducible refine (Pol_right m hm.out _).mono ?_); rintro r w1 ⟨rfl, rfl⟩)
    | (go_at_call 69; (try simp only [hpb]); clear hpb; (with_reducible refine cN.out.mono ?_); rintro r w2 ⟨cb, rfl, h2⟩; have h2 := hide (Holds.p1 h2); obtain ⟨f2, f3, f4, f5, f6, f7, f8, f9, f10, f11⟩ := free12 h2.out; obtain ⟨z2, z3, z4, z5, z6, z7, z8, z9, z10, z11⟩ := cells12 h2.out))
  go_ret2
  refine ⟨pb, rfl, ?_⟩
  exact Holds.toPol (p := .lru ⟨m, []⟩) (put10 h2.out _ _ _ _ _ _ _ _ _ _)
theorem Pol_New_lfu {g w : World} {F : List SProp} (h : Holds g w F) (m : Nat) (hm : m ≤ 16777216) :
    Calls Tryz.prog 44 #[.int .i64 1, .int .i64 (m : Nat)] w fun r w' => ∃ b, r = .returned (.tuple #[.pointer (some ⟨b, 0, none⟩), .nilIface]) ∧ Holds g w' (IsPol b 1 m (.lfu ⟨m, 0, false, [], 0⟩) :: F) := by
  have h := hide h
  have hmf : ∀ (fn : Fn) (first cap : Array Value) (w : World), (Instr.makeFunc fn first cap).run Tryz.prog w = .ok (.func fn first cap) w := fun _ _ _ _ => rfl
  obtain ⟨pb, hpb⟩ : ∃ pb, w.heap.size = pb := ⟨_, rfl⟩
  have HA := h.out.alloc (o := .cells #[.int .i64 (1 : Int), .int .i64 (m : Nat), .nilFunc, .nilFunc, .nilFunc, .nilFunc, .nilFunc, .nilFunc, .nilFunc, .nilFunc, .nilFunc, .nilFunc] 158)
  rw [hpb] at HA
  have HA := hide HA
  have cN := hide (Lfu_New HA.out m (by omega) false)
  have hm := hide hm
  go_enter Tryz.func44, Tryz.ntmps44
  go_wp2_with (first
    | (go_at_call 68; (with_reducible refine (Pol_right m hm.out _).mono ?_); rintro r w1 ⟨rfl, rfl⟩)
    | (go_at_call 80; (try simp only [hpb]); clear hpb; (with_reducible refine cN.out.mono ?_); rintro r w2 ⟨cb, rfl, h2⟩; have h2 := hide (Holds.p1 h2); obtain ⟨f2, f3, f4, f5, f6, f7, f8, f9, f10, f11⟩ := free12 h2.out; obtain ⟨z2, z3, z4, z5, z6, z7, z8, z9, z10, z11⟩ := cells12 h2.out))
  go_ret2
  refine ⟨pb, rfl, ?_⟩
  exact Holds.toPol (p := .lfu ⟨m, 0, false, [], 0⟩) (put10 h2.out _ _ _ _ _ _ _ _ _ _)
theorem Pol_New_cr {g w : World} {F : List SProp} (h : Holds g w F) (m : Nat) (hm : m ≤ 16777216) :
    Calls Tryz.prog 44 #[.int .i64 2, .int .i64 (m : Nat)] w fun r w' => ∃ b, r = .returned (.tuple #[.pointer (some ⟨b, 0, none⟩), .nilIface]) ∧ Holds g w' (IsPol b 2 m (.lfu ⟨m, 0, true, [], 0⟩) :: F) := by
  have h := hide h
  have hmf : ∀ (fn : Fn) (first cap : Array Value) (w : World), (Instr.makeFunc fn first cap).run Tryz.prog w = .ok (.func fn first cap) w := fun _ _ _ _ => rfl
  obtain ⟨pb, hpb⟩ : ∃ pb, w.heap.size = pb := ⟨_, rfl⟩
  have HA := h.out.alloc (o := .cells #[.int .i64 (2 : Int), .int .i64 (m : Nat), .nilFunc, .nilFunc, .nilFunc, .nilFunc, .nilFunc, .nilFunc, .nilFunc, .nilFunc, .nilFunc, .nilFunc] 158)
  rw [hpb] at HA
  have HA := hide HA
  have cN := hide (Lfu_New HA.out m (by omega) true)
  have hm := hide hm
  go_enter Tryz.func44, Tryz.ntmps44
  go_wp2_with (first
    | (go_at_call 68; (with_reducible refine (Pol_right m hm.out _).mono ?_); rintro r w1 ⟨rfl, rfl⟩)
    | (go_at_call 80; (try simp only [hpb]); clear hpb; (with_reducible refine cN.out.mono ?_); rintro r w2 ⟨cb, rfl, h2⟩; have h2 := hide (Holds.p1 h2); obtain ⟨f2, f3, f4, f5, f6, f7, f8, f9, f10, f11⟩ := free12 h2.out; obtain ⟨z2, z3, z4, z5, z6, z7, z8, z9, z10, z11⟩ := cells12 h2.out))
  go_ret2
  refine ⟨pb, rfl, ?_⟩
  exact Holds.toPol (p := .lfu ⟨m, 0, true, [], 0⟩) (put10 h2.out _ _ _ _ _ _ _ _ _ _)
theorem Pol_New_sr {g w : World} {F : List SProp} (h : Holds g w F) (m : Nat) (hm : m ≤ 16777216) :
    Calls Tryz.prog 44 #[.int .i64 3, .int .i64 (m : Nat)] w fun r w' => ∃ b, r = .returned (.tuple #[.pointer (some ⟨b, 0, none⟩), .nilIface]) ∧ Holds g w' (IsPol b 3 m (.sr ⟨m, m / 2, [], [], [], []⟩) :: F) := by
  have h := hide h
  have hmf : ∀ (fn : Fn) (first cap : Array Value) (w : World), (Instr.makeFunc fn first cap).run Tryz.prog w = .ok (.func fn first cap) w := fun _ _ _ _ => rfl
  obtain ⟨pb, hpb⟩ : ∃ pb, w.heap.size = pb := ⟨_, rfl⟩
  have HA := h.out.alloc (o := .cells #[.int .i64 (3 : Int), .int .i64 (m : Nat), .nilFunc, .nilFunc, .nilFunc, .nilFunc, .nilFunc, .nilFunc, .nilFunc, .nilFunc, .nilFunc, .nilFunc] 158)
  rw [hpb] at HA
  have HA := hide HA
  have cN := hide (Sr_New HA.out m (by omega))
  have hm := hide hm
  go_enter Tryz.func44, Tryz.ntmps44
  go_wp2_with (first
    | (go_at_call 68; (with_reducible refine (Pol_right m hm.out _).mono ?_); rintro r w1 ⟨rfl, rfl⟩)
    | (go_at_call 91; (try simp only [hpb]); clear hpb; (with_reducible refine cN.out.mono ?_); rintro r w2 ⟨cb, rfl, h2⟩; have h2 := hide (Holds.p1 h2); obtain ⟨f2, f3, f4, f5, f6, f7, f8, f9, f10, f11⟩ := free12 h2.out; obtain ⟨z2, z3, z4, z5, z6, z7, z8, z9, z10, z11⟩ := cells12 h2.out))
  go_ret2
  refine ⟨pb, rfl, ?_⟩
  exact Holds.toPol (p := .sr ⟨m, m / 2, [], [], [], []⟩) (put10 h2.out _ _ _ _ _ _ _ _ _ _)
end Go.Proofs.YtbbdimlpofjlfaaGreatDoor
/- One of the policies, in memory: Resize; faults. -/
namespace Go.Proofs.YtbbdimlpofjlfaaGreatDoor
open Go Go.RowKit

set_option maxRecDepth 100000
set_option maxHeartbeats 1000000
theorem Pol_Resize {g w : World} {b : Nat} {kind : Int} {m : Nat} {p : Pol} {F : List SProp} (h : Holds g w (IsPol b kind m p :: F)) (most : Nat) (hm : most ≤ 16777216) (i m' : Nat) (hf : p.Fit i m') (hi : i < 100000) (hm' : m' ≤ 1000000000) :
    Calls Tryz.prog 321 #[.pointer (some ⟨b, 0, none⟩), .int .i64 (most : Nat)] w fun r w' => ∃ v, r = .returned (.tuple #[v, .nilIface]) ∧ Holds g w' (OwnStrs v (p.resize most).2 :: IsPol b kind most (p.resize most).1 :: F) := by
  obtain ⟨cb, h⟩ := h.isPol
  cases p with
  | lru s =>
    have hf1 : s.ks.length ≤ 900000 := by have := hf.1; omega
    have c1 := (pcells h).2
    have f1 := Holds.free (off := 1) h
    have HB := setAt h (off := 1) (v := .int .i64 (most : Nat)) (cs' := polCells kind most cb (.lru s)) rfl
    have c9 : (w.setCell ⟨b, 1, none⟩ (.int .i64 (most : Nat))).cell? ⟨b, 9, none⟩ = some (.func (.func 77) #[.pointer (some ⟨cb, 0, none⟩)] #[]) := Holds.cell (off := 9) HB rfl
    have cM := hide (Lru_Resize (Holds.p1 HB) most (by omega) hf1)
    have hm := hide hm
    clear h HB
    go_enter Tryz.func321, Tryz.ntmps321
    go_wp2_with (first
      | (go_at_call 68; (with_reducible refine (Pol_right most hm.out _).mono ?_); rintro r w1 ⟨rfl, rfl⟩)
      | (go_at_call 77; (with_reducible refine cM.out.mono ?_); rintro r w1 ⟨v, rfl, h1⟩; have h1 := hide h1))
    go_ret2
    exact ⟨v, rfl, (Holds.toPol (p := .lru (s.resize most).1) (h1.out.p1.p2)).p1⟩
  | lfu s =>
    have hf1 : s.srt.length ≤ 900000 := by have := hf.1; omega
    have c1 := (pcells h).2
    have f1 := Holds.free (off := 1) h
    have HB := setAt h (off := 1) (v := .int .i64 (most : Nat)) (cs' := polCells kind most cb (.lfu s)) rfl
    have c9 : (w.setCell ⟨b, 1, none⟩ (.int .i64 (most : Nat))).cell? ⟨b, 9, none⟩ = some (.func (.func 88) #[.pointer (some ⟨cb, 0, none⟩)] #[]) := Holds.cell (off := 9) HB rfl
    have cM := hide (Lfu_Resize (Holds.p1 HB) most (by omega) hf1)
    have hm := hide hm
    clear h HB
    go_enter Tryz.func321, Tryz.ntmps321
    go_wp2_with (first
      | (go_at_call 68; (with_reducible refine (Pol_right most hm.out _).mono ?_); rintro r w1 ⟨rfl, rfl⟩)
      | (go_at_call 88; (with_reducible refine cM.out.mono ?_); rintro r w1 ⟨v, rfl, h1⟩; have h1 := hide h1))
    go_ret2
    exact ⟨v, rfl, (Holds.toPol (p := .lfu (s.resize most).1) (h1.out.p1.p2)).p1⟩
  | sr s =>
    have hf1 : s.n.length + s.a.length + s.g.length < 400000 := by have := Sr.Fit.size hf; unfold Sr.size at this; omega
    have hf2 : s.target ≤ 1000000000 := by have := Sr.Fit.target hf; omega
    have c1 := (pcells h).2
    have f1 := Holds.free (off := 1) h
    have HB := setAt h (off := 1) (v := .int .i64 (most : Nat)) (cs' := polCells kind most cb (.sr s)) rfl
    have c9 : (w.setCell ⟨b, 1, none⟩ (.int .i64 (most : Nat))).cell? ⟨b, 9, none⟩ = some (.func (.func 99) #[.pointer (some ⟨cb, 0, none⟩)] #[]) := Holds.cell (off := 9) HB rfl
    have cM := hide (Sr_Resize (Holds.p1 HB) most (by omega) hf1 hf2)
    have hm := hide hm
    clear h HB
    go_enter Tryz.func321, Tryz.ntmps321
    go_wp2_with (first
      | (go_at_call 68; (with_reducible refine (Pol_right most hm.out _).mono ?_); rintro r w1 ⟨rfl, rfl⟩)
      | (go_at_call 99; (with_reducible refine cM.out.mono ?_); rintro r w1 ⟨v, rfl, h1⟩; have h1 := hide h1))
    go_ret2
    exact ⟨v, rfl, (Holds.toPol (p := .sr (s.resize most).1) (h1.out.p1.p2)).p1⟩
theorem Pol_right_no (m : Int) (hm : m < 0 ∨ 16777216 < m) (w : World) : Calls Tryz.prog 68 #[.int .i64 m] w fun r w' => r = .returned (.bool false) ∧ w = w' := by
  by_cases h0 : 0 ≤ m
  · have h1 : 16777216 < m := by omega
    clear hm
    go_enter Tryz.func68, Tryz.ntmps68
    go_wp2
    go_ret
    first | exact ⟨rfl, rfl⟩ | exact ⟨by simp; omega, rfl⟩
  · have h1 : m < 0 := by omega
    clear hm
    go_enter Tryz.func68, Tryz.ntmps68
    go_wp2
    go_ret
    first | exact ⟨rfl, rfl⟩ | exact ⟨by simp; omega, rfl⟩
theorem Pol_fault (op : ByteArray) (n : Int) (w : World) :
    Calls Tryz.prog 47 #[.string op, .int .i64 n] w fun r w' => ∃ v, r = .returned v ∧ Keep w w' ∧ ErrAt w' (.fault op ⟨#[]⟩ (.no n)) v := by
  go_enter Tryz.func47, Tryz.ntmps47
  go_wp2
  go_ret
  refine ⟨_, rfl, (Keep.refl _).alloc, ?_⟩
  exact (Holds.mkErr (L := []) rfl (Holds.start w).alloc).errAt
theorem Ln_fault (op : ByteArray) (n : Int) (w : World) :
    Calls Tryz.prog 65 #[.string op, .int .i64 n] w fun r w' => ∃ v, r = .returned v ∧ Keep w w' ∧ ErrAt w' (.fault op ⟨#[]⟩ (.no n)) v := by
  go_enter Tryz.func65, Tryz.ntmps65
  go_wp2
  go_ret
  refine ⟨_, rfl, (Keep.refl _).alloc, ?_⟩
  exact (Holds.mkErr (L := []) rfl (Holds.start w).alloc).errAt
/-- A size that may not be. -/
theorem Pol_New_no (m : Int) (hm : m < 0 ∨ 16777216 < m) (w : World) (kind : Int) (hk : 0 ≤ kind ∧ kind ≤ 4) :
    Calls Tryz.prog 44 #[.int .i64 kind, .int .i64 m] w fun r w' => ∃ v, r = .returned (.tuple #[.pointer none, v]) ∧ Keep w w' ∧ ErrAt w' (.fault ⟨#[112, 111, 108, 105, 99, 121]⟩ ⟨#[]⟩ (.no 1)) v := by
  obtain ⟨k0, k1⟩ := hk
  have k2 : ¬ kind < 0 := by omega
  have k3 : ¬ 4 < kind := by omega
  have hm := hide hm
  go_enter Tryz.func44, Tryz.ntmps44
  go_wp2_with (first
    | (go_at_call 68; (with_reducible refine (Pol_right_no m hm.out _).mono ?_); rintro r w1 ⟨rfl, rfl⟩)
    | (go_at_call 47; (with_reducible refine (Pol_fault _ _ _).mono ?_); rintro r w1 ⟨v, rfl, hk, he⟩; have hk := hide hk; have he := hide he))
  go_ret2
  exact ⟨v, rfl, hk.out, he.out⟩
end Go.Proofs.YtbbdimlpofjlfaaGreatDoor
