/- lru. -/
import Derived.Test.YtbbdimlpofjlfaaGreatDoorQLs2
import Derived.Deep.QuietTactic
import Derived.BigQuiet
namespace Go.Proofs.YtbbdimlpofjlfaaGreatDoor
open Go Go.RowKit

theorem Calls.quiet_eq {P : Program} {f : FuncId} {args : Array Value} {w : World} {n : Nat} {v : Value}
    (h : Calls P f args (w.drewN n) fun e w' => e = .returned v ∧ w.drewN n = w') : Calls P f args (w.drewN n) fun e w'' => e = .returned v ∧ ∃ m, w'' = w.drewN m :=
  h.mono fun _ _ ⟨he, hm⟩ => ⟨he, n, hm.symm⟩
/-- An lru cache at block b. -/
def IsLru (b : Nat) (s : Lru) : SProp := fun h => ∃ lb, All [pts b (.cells #[.int .i64 (s.most : Nat), .pointer (some ⟨lb, 0, none⟩)] 242), IsList lb s.ks] h
theorem Holds.isLru {g w : World} {b : Nat} {s : Lru} {F : List SProp} (h : Holds g w (IsLru b s :: F)) : ∃ lb, Holds g w (pts b (.cells #[.int .i64 (s.most : Nat), .pointer (some ⟨lb, 0, none⟩)] 242) :: IsList lb s.ks :: F) := by
  obtain ⟨lb, h⟩ := h.unex
  exact ⟨lb, h.unall⟩
theorem Holds.toLru {g w : World} {b lb m : Nat} {ks : List ByteArray} {F : List SProp} (h : Holds g w (pts b (.cells #[.int .i64 (m : Nat), .pointer (some ⟨lb, 0, none⟩)] 242) :: IsList lb ks :: F)) : Holds g w (IsLru b ⟨m, ks⟩ :: F) := by
  have h' : Holds g w (All [pts b (.cells #[.int .i64 (m : Nat), .pointer (some ⟨lb, 0, none⟩)] 242), IsList lb ks] :: F) := Holds.all h
  exact h'.head fun x hx => ⟨lb, hx⟩
set_option maxRecDepth 100000 in
theorem Lru_New {g w : World} {F : List SProp} (h : Holds g w F) (m : Nat) (hm : m ≤ 1000000000) :
    Calls Tryz.prog 69 #[.int .i64 (m : Nat)] w fun r w' => ∃ b, r = .returned (.pointer (some ⟨b, 0, none⟩)) ∧ Holds g w' (IsLru b ⟨m, []⟩ :: F) := by
  have h := hide h
  have f1 : max (m : Int) 0 = m := by omega
  go_enter Tryz.func69, Tryz.ntmps69
  go_wp2_with (go_at_call 67; (with_reducible refine (List_New h.out).mono ?_); rintro r w1 ⟨lb, rfl, h1⟩; have h1 := hide h1)
  go_ret
  refine ⟨_, rfl, ?_⟩
  exact (h1.out.alloc (o := .cells #[.int .i64 (m : Nat), .pointer (some ⟨lb, 0, none⟩)] 242)).toLru
set_option maxRecDepth 100000 in
theorem Lru_Has {g w : World} {b : Nat} {s : Lru} {F : List SProp} (h : Holds g w (IsLru b s :: F)) (k : ByteArray) (d : Bool) (hd : decide (k ∈ s.ks) = d) :
    Calls Tryz.prog 70 #[.pointer (some ⟨b, 0, none⟩), .string k] w fun r w' => r = .returned (.bool d) ∧ w = w' := by
  obtain ⟨lb, h⟩ := h.isLru
  have c1 : w.cell? ⟨b, 1, none⟩ = some (.pointer (some ⟨lb, 0, none⟩)) := h.cell rfl
  have cL := hide (List_Has h.p1 k d hd)
  clear h hd
  go_enter Tryz.func70, Tryz.ntmps70
  go_wp2_with (go_at_call 160; (with_reducible refine cL.out.mono ?_); rintro r w1 ⟨rfl, rfl⟩)
  go_ret
  exact ⟨rfl, rfl⟩
set_option maxRecDepth 100000 in
theorem Lru_Len {g w : World} {b : Nat} {s : Lru} {F : List SProp} (h : Holds g w (IsLru b s :: F)) (n : Nat) (hn : s.ks.length = n) :
    Calls Tryz.prog 71 #[.pointer (some ⟨b, 0, none⟩)] w fun r w' => r = .returned (.int .i64 n) ∧ w = w' := by
  obtain ⟨lb, h⟩ := h.isLru
  have c1 : w.cell? ⟨b, 1, none⟩ = some (.pointer (some ⟨lb, 0, none⟩)) := h.cell rfl
  have cL := hide (List_Len h.p1 n hn)
  clear h hn
  go_enter Tryz.func71, Tryz.ntmps71
  go_wp2_with (go_at_call 161; (with_reducible refine cL.out.mono ?_); rintro r w1 ⟨rfl, rfl⟩)
  go_ret
  exact ⟨rfl, rfl⟩
set_option maxRecDepth 100000 in
theorem Lru_Victim {g w : World} {b : Nat} {s : Lru} {F : List SProp} (h : Holds g w (IsLru b s :: F)) (x : ByteArray) (hx : kLast s.ks = x) (d : Bool) (hd : (!s.ks.isEmpty) = d) :
    Calls Tryz.prog 75 #[.pointer (some ⟨b, 0, none⟩)] w fun r w' => r = .returned (.tuple #[.string x, .bool d]) ∧ Keep w w' := by
  obtain ⟨lb, h⟩ := h.isLru
  have c1 : w.cell? ⟨b, 1, none⟩ = some (.pointer (some ⟨lb, 0, none⟩)) := h.cell rfl
  have cL := hide (List_Last h.p1 x hx d hd)
  clear h hx hd
  go_enter Tryz.func75, Tryz.ntmps75
  go_wp2_with (go_at_call 165; (with_reducible refine cL.out.mono ?_); rintro r w1 ⟨rfl, k1⟩; have k1 := hide k1)
  go_ret2
  exact ⟨rfl, k1.out⟩
set_option maxRecDepth 100000 in
theorem Lru_Drop {g w : World} {b : Nat} {s : Lru} {F : List SProp} (h : Holds g w (IsLru b s :: F)) (x : ByteArray) (hx : kLast s.ks = x) (d : Bool) (hd : (!s.ks.isEmpty) = d) :
    Calls Tryz.prog 76 #[.pointer (some ⟨b, 0, none⟩)] w fun r w' => r = .returned (.tuple #[.string x, .bool d]) ∧ Holds g w' (IsLru b ⟨s.most, s.ks.dropLast⟩ :: F) := by
  obtain ⟨lb, h⟩ := h.isLru
  have c1 : w.cell? ⟨b, 1, none⟩ = some (.pointer (some ⟨lb, 0, none⟩)) := h.cell rfl
  have cL := hide (List_Pop h.p1 x hx d hd)
  clear h hx hd
  go_enter Tryz.func76, Tryz.ntmps76
  go_wp2_with (go_at_call 162; (with_reducible refine cL.out.mono ?_); rintro r w1 ⟨rfl, h1⟩; have h1 := hide h1)
  go_ret2
  exact ⟨rfl, h1.out.p1.toLru⟩
set_option maxRecDepth 100000 in
theorem Lru_Remove {g w : World} {b : Nat} {s : Lru} {F : List SProp} (h : Holds g w (IsLru b s :: F)) (k : ByteArray) (d : Bool) (hd : decide (k ∈ s.ks) = d) :
    Calls Tryz.prog 73 #[.pointer (some ⟨b, 0, none⟩), .string k] w fun r w' => r = .returned (.bool d) ∧ Holds g w' (IsLru b ⟨s.most, kDel s.ks k⟩ :: F) := by
  obtain ⟨lb, h⟩ := h.isLru
  have c1 : w.cell? ⟨b, 1, none⟩ = some (.pointer (some ⟨lb, 0, none⟩)) := h.cell rfl
  have cL := hide (List_Remove h.p1 k d hd)
  clear h hd
  go_enter Tryz.func73, Tryz.ntmps73
  go_wp2_with (go_at_call 164; (with_reducible refine cL.out.mono ?_); rintro r w1 ⟨rfl, h1⟩; have h1 := hide h1)
  go_ret
  exact ⟨rfl, h1.out.p1.toLru⟩
end Go.Proofs.YtbbdimlpofjlfaaGreatDoor
/- lru: Request, Adopt. -/
namespace Go.Proofs.YtbbdimlpofjlfaaGreatDoor
open Go Go.RowKit

theorem infoStep : (Tryz.prog.info? 34).map (·.size) = some 3 := by kernel_rfl
theorem cells3 {g w : World} {b : Nat} {t : TypeId} {F : List SProp} {v0 v1 v2 : Value} (h : Holds g w (pts b (.cells #[v0, v1, v2] t) :: F)) :
    w.cell? ⟨b, 0, none⟩ = some v0 ∧ w.cell? ⟨b, 1, none⟩ = some v1 ∧ w.cell? ⟨b, 2, none⟩ = some v2 := ⟨h.cell rfl, h.cell rfl, h.cell rfl⟩
theorem free3 {g w : World} {b : Nat} {cs : Array Value} {t : TypeId} {F : List SProp} (h : Holds g w (pts b (.cells cs t) :: F)) :
    w.frozen? ⟨b, 0, none⟩ = false ∧ w.frozen? ⟨b, 1, none⟩ = false ∧ w.frozen? ⟨b, 2, none⟩ = false := ⟨h.free, h.free, h.free⟩
theorem setAt {g w : World} {b off : Nat} {v : Value} {cs cs' : Array Value} {t : TypeId} {F : List SProp} (h : Holds g w (pts b (.cells cs t) :: F)) (hc : cs.setIfInBounds off v = cs') : Holds g (w.setCell ⟨b, off, none⟩ v) (pts b (.cells cs' t) :: F) := by
  rw [← hc]; exact h.setCell
theorem put3 {g w : World} {b : Nat} {t : TypeId} {F : List SProp} {u0 u1 u2 : Value} (h : Holds g w (pts b (.cells #[u0, u1, u2] t) :: F)) (v0 v1 v2 : Value) :
    Holds g (((w.setCell ⟨b, 0, none⟩ v0).setCell ⟨b, 1, none⟩ v1).setCell ⟨b, 2, none⟩ v2) (pts b (.cells #[v0, v1, v2] t) :: F) :=
  setAt (setAt (setAt h (off := 0) (v := v0) (by simp; rfl)) (off := 1) (v := v1) (by simp; rfl)) (off := 2) (v := v2) (by simp)
theorem ret_step {fn : Func} (hr : fn.results = #[.cell 4 34]) {g w : World} {b : Nat} {F : List SProp} {v0 v1 v2 : Value} {tmps : Array Value} (h : Holds g w (pts b (.cells #[v0, v1, v2] 34) :: F))
    (hp : tmps.getD 4 undef = .pointer (some ⟨b, 0, none⟩)) : (results fn tmps).run Tryz.prog w = .ok (.agg #[v0, v1, v2]) w := by
  have hp' : tmps[4]?.getD undef = .pointer (some ⟨b, 0, none⟩) := by simpa using hp
  simp [results, hr, hp', asAddr, run_loadVar_row w b 34 34 _ (0, 0) _ h.block Tryz.underlying34 rfl infoStep]
/-- A step as it is told. -/
def stepV (s : Stp) : Value := .agg #[.bool s.hit, .string s.victim, .bool s.out]
/-- What stands in memory in the midst of a request. -/
def LruMid (r4 r5 b lb most : Nat) (ks : List ByteArray) (u0 u1 u2 : Value) (F : List SProp) : List SProp :=
  IsList lb ks :: pts r5 (.cells #[u0, u1, u2] 34) :: pts r4 (.cells #[.bool false, .string ⟨#[]⟩, .bool false] 34) :: pts b (.cells #[.int .i64 (most : Nat), .pointer (some ⟨lb, 0, none⟩)] 242) :: F
set_option maxRecDepth 100000 in
set_option maxHeartbeats 2000000 in
theorem Lru_Request {g w : World} {b : Nat} {s : Lru} {F : List SProp} (h : Holds g w (IsLru b s :: F)) (k : ByteArray) (hl : s.ks.length < 900000) :
    Calls Tryz.prog 72 #[.pointer (some ⟨b, 0, none⟩), .string k] w fun r w' => r = .returned (stepV (s.req k).2) ∧ Holds g w' (IsLru b (s.req k).1 :: F) := by
  obtain ⟨most, ks⟩ := s
  obtain ⟨lb, h⟩ := h.isLru
  dsimp only at h hl
  obtain ⟨d, hd⟩ : ∃ d, decide (k ∈ ks) = d := ⟨_, rfl⟩
  obtain ⟨n, hn⟩ : ∃ n, ks.length = n := ⟨_, rfl⟩
  have cH := hide (fun w' (kk : Keep w w') => List_Has (h.p1.keep kk) k d hd)
  have HK := (h.alloc (o := .cells #[.bool false, .string ⟨#[]⟩, .bool false] 34)).p1
  have c1 : (w.alloc (.cells #[.bool false, .string ⟨#[]⟩, .bool false] 34)).cell? ⟨b, 1, none⟩ = some (.pointer (some ⟨lb, 0, none⟩)) := HK.cell rfl
  have kA := hide ((Keep.refl w).alloc (o := .cells #[.bool false, .string ⟨#[]⟩, .bool false] 34))
  have HA := (HK.alloc (o := .cells #[.bool d, .string ⟨#[]⟩, .bool false] 34)).p1.p2.p2.p3
  simp only [World.size_alloc] at HA
  obtain ⟨r4, hr4⟩ : ∃ r4, w.heap.size = r4 := ⟨_, rfl⟩
  obtain ⟨r5, hr5⟩ : ∃ r5, r4 + 1 = r5 := ⟨_, rfl⟩
  rw [hr4, hr5] at HA
  have HA := hide HA
  have hl := hide hl
  clear h HK
  obtain ⟨res, hres⟩ : ∃ res, Lru.req ⟨most, ks⟩ k = res := ⟨_, rfl⟩
  rw [hres]
  have hres := hide hres
  go_enter Tryz.func72, Tryz.ntmps72
  go_upto_region 2 with (go_at_call 160; (with_reducible refine (cH.out _ kA.out).mono ?_); rintro r w1 ⟨rfl, rfl⟩)
  try simp only [hr4, hr5]
  generalize (w.alloc (.cells #[.bool false, .string ⟨#[]⟩, .bool false] 34)).alloc (.cells #[.bool d, .string ⟨#[]⟩, .bool false] 34) = W2 at HA ⊢
  have hd := hide hd
  have hn := hide hn
  clear c1 kA cH hr4 hr5
  obtain ⟨t0, t1, t2⟩ := cells3 HA.out.p1
  obtain ⟨z0, z1, z2⟩ := cells3 HA.out.p2
  obtain ⟨f0, f1, f2⟩ := free3 HA.out.p2
  have c0 : W2.cell? ⟨b, 0, none⟩ = some (.int .i64 most) := HA.out.p3.cell rfl
  have c1 : W2.cell? ⟨b, 1, none⟩ = some (.pointer (some ⟨lb, 0, none⟩)) := HA.out.p3.cell rfl
  by_cases h0 : most = 0
  · subst h0
    have HR := put3 HA.out.p2 (.bool d) (.string ⟨#[]⟩) (.bool false)
    go_wp2
    refine bodyPost_ret (ret_step rfl HR rfl) rfl ?_
    rw [show res = (⟨0, ks⟩, ⟨d, bNil, false⟩) by rw [← hres.out]; unfold Lru.req; rw [if_pos rfl, hd.out]]
    exact ⟨rfl, HR.drop.p1.drop.p1.toLru⟩
  · have g0 : ((most : Int) == 0) = false := by rw [beq_eq_false_iff_ne]; omega
    have h0 := hide h0
    cases d with
    | true =>
      have hk : k ∈ ks := by simpa using hd.out
      have hk := hide hk
      go_wp2
      go_quiet (fail)
      go_wp2_with (go_at_call 163; (with_reducible refine (List_Front HA.out.drewN k hl.out).mono ?_); rintro r w3 ⟨rfl, h3⟩; have h3 := hide h3; obtain ⟨a0, a1, a2⟩ := cells3 h3.out.p1; obtain ⟨b0, b1, b2⟩ := cells3 h3.out.p2; obtain ⟨e0, e1, e2⟩ := free3 h3.out.p2)
      have HR := put3 h3.out.p2 (.bool true) (.string ⟨#[]⟩) (.bool false)
      refine bodyPost_ret (ret_step rfl HR rfl) rfl ?_
      rw [show res = (⟨most, kFront ks k⟩, ⟨true, bNil, false⟩) by rw [← hres.out]; unfold Lru.req; rw [if_neg h0.out, if_pos hk.out]]
      exact ⟨rfl, (HR.drop.p1.drop.p1).toLru⟩
    | false =>
      have hk : k ∉ ks := by simpa using hd.out
      have hk := hide hk
      have cL := hide (fun m => List_Len (HA.out.drewN (n := m)) n hn.out)
      by_cases hf : most ≤ n
      · have hf1 : decide ((most : Int) ≤ n) = true := decide_eq_true (by omega)
        have hf := hide hf
        have hne : ks ≠ [] := by
          rintro rfl
          have := hn.out
          have := h0.out
          have := hf.out
          simp at *
          omega
        obtain ⟨x, hx⟩ : ∃ x, kLast ks = x := ⟨_, rfl⟩
        have hE : (!ks.isEmpty) = true := by cases ks; exact absurd rfl hne; rfl
        have hlD := hide (show ks.dropLast.length < 900000 by have := hl.out; rw [List.length_dropLast]; omega)
        have cP := hide (fun m => List_Pop (HA.out.drewN (n := m)) x hx true hE)
        have hx := hide hx
        clear hne hE
        go_wp2
        go_quiet ((go_at_call 161; exact Calls.quiet_eq (cL.out _)))
        go_wp2_with (first
          | (go_at_call 162; (with_reducible refine (cP.out _).mono ?_); rintro r w3 ⟨rfl, h3⟩; obtain ⟨a0, a1, a2⟩ := cells3 h3.p1; obtain ⟨e0, e1, e2⟩ := free3 h3.p1; have HS := hide (setAt (setAt h3.p1 (off := 1) (v := .string x) (by simp; rfl)) (off := 2) (v := .bool true) (by simp; rfl)).p1; have b1 := Holds.cell (off := 1) HS.out.p3 rfl; clear h3)
          | (go_at_call 163; (with_reducible refine (List_Front HS.out k hlD.out).mono ?_); rintro r w4 ⟨rfl, h4⟩; have h4 := hide h4; obtain ⟨a0, a1, a2⟩ := cells3 h4.out.p1; obtain ⟨b0, b1, b2⟩ := cells3 h4.out.p2; obtain ⟨e0, e1, e2⟩ := free3 h4.out.p2))
        have HR := put3 h4.out.p2 (.bool false) (.string x) (.bool true)
        refine bodyPost_ret (ret_step rfl HR rfl) rfl ?_
        rw [show res = (⟨most, kFront ks.dropLast k⟩, ⟨false, x, true⟩) by rw [← hres.out]; unfold Lru.req; rw [if_neg h0.out, if_neg hk.out, if_pos (by dsimp only; rw [hn.out]; exact hf.out), hx.out]]
        exact ⟨rfl, (HR.drop.p1.drop.p1).toLru⟩
      · have hf1 : decide ((most : Int) ≤ n) = false := decide_eq_false (by omega)
        have hf := hide hf
        go_wp2
        go_quiet ((go_at_call 161; exact Calls.quiet_eq (cL.out _)))
        go_wp2_with (go_at_call 163; (with_reducible refine (List_Front HA.out.drewN k hl.out).mono ?_); rintro r w3 ⟨rfl, h3⟩; have h3 := hide h3; obtain ⟨a0, a1, a2⟩ := cells3 h3.out.p1; obtain ⟨b0, b1, b2⟩ := cells3 h3.out.p2; obtain ⟨e0, e1, e2⟩ := free3 h3.out.p2)
        have HR := put3 h3.out.p2 (.bool false) (.string ⟨#[]⟩) (.bool false)
        refine bodyPost_ret (ret_step rfl HR rfl) rfl ?_
        rw [show res = (⟨most, kFront ks k⟩, ⟨false, bNil, false⟩) by rw [← hres.out]; unfold Lru.req; rw [if_neg h0.out, if_neg hk.out, if_neg (by dsimp only; rw [hn.out]; exact hf.out)]]
        exact ⟨rfl, (HR.drop.p1.drop.p1).toLru⟩
set_option maxRecDepth 100000 in
set_option maxHeartbeats 2000000 in
theorem Lru_Adopt {g w : World} {b : Nat} {s : Lru} {F : List SProp} (h : Holds g w (IsLru b s :: F)) (k : ByteArray) (hl : s.ks.length < 900000) :
    Calls Tryz.prog 74 #[.pointer (some ⟨b, 0, none⟩), .string k] w fun r w' => r = .returned (.bool (s.adopt k).2) ∧ Holds g w' (IsLru b (s.adopt k).1 :: F) := by
  obtain ⟨most, ks⟩ := s
  obtain ⟨lb, h⟩ := h.isLru
  dsimp only at h hl
  obtain ⟨d, hd⟩ : ∃ d, decide (k ∈ ks) = d := ⟨_, rfl⟩
  obtain ⟨n, hn⟩ : ∃ n, ks.length = n := ⟨_, rfl⟩
  have cH := hide (fun m => List_Has (h.drewN (n := m)).p1 k d hd)
  have cL := hide (fun m => List_Len (h.drewN (n := m)).p1 n hn)
  have c0 : w.cell? ⟨b, 0, none⟩ = some (.int .i64 most) := h.cell rfl
  have c1 : w.cell? ⟨b, 1, none⟩ = some (.pointer (some ⟨lb, 0, none⟩)) := h.cell rfl
  obtain ⟨res, hres⟩ : ∃ res, Lru.adopt ⟨most, ks⟩ k = res := ⟨_, rfl⟩
  rw [hres]
  have hres := hide hres
  have h := hide h
  have hd := hide hd
  have hn := hide hn
  have hl := hide hl
  cases d with
  | true =>
    have hr : Hide (res = (⟨most, ks⟩, false)) := ⟨by rw [← hres.out]; unfold Lru.adopt; rw [if_pos (.inl (of_decide_eq_true hd.out))]⟩
    go_enter Tryz.func74, Tryz.ntmps74
    go_wp2
    go_quiet ((go_at_call 160; exact Calls.quiet_eq (cH.out _)))
    go_wp2
    go_ret
    rw [hr.out]
    exact ⟨rfl, h.out.drewN.toLru⟩
  | false =>
    have hk : k ∉ ks := of_decide_eq_false hd.out
    have hk := hide hk
    by_cases hf : most ≤ n
    · have hf1 : decide ((most : Int) ≤ n) = true := decide_eq_true (by omega)
      have hf2 : decide (most ≤ n) = true := decide_eq_true hf
      have hf3 : most ≤ n := hf
      have hr : Hide (res = (⟨most, ks⟩, false)) := ⟨by rw [← hres.out]; unfold Lru.adopt; rw [if_pos (.inr (by dsimp only; rw [hn.out]; exact hf))]⟩
      clear hf
      go_enter Tryz.func74, Tryz.ntmps74
      go_wp2
      go_quiet ((first | (go_at_call 160; exact Calls.quiet_eq (cH.out _)) | (go_at_call 161; exact Calls.quiet_eq (cL.out _))))
      go_wp2
      go_ret
      rw [hr.out]
      exact ⟨rfl, h.out.drewN.toLru⟩
    · have hf1 : decide ((most : Int) ≤ n) = false := decide_eq_false (by omega)
      have hf2 : decide (most ≤ n) = false := decide_eq_false hf
      have hf3 : n < most := by omega
      have hr : Hide (res = (⟨most, kFront ks k⟩, true)) := ⟨by rw [← hres.out]; unfold Lru.adopt; rw [if_neg (by dsimp only; rw [hn.out]; exact fun hh => hh.elim hk.out hf)]⟩
      clear hf
      go_enter Tryz.func74, Tryz.ntmps74
      go_wp2
      go_quiet ((first | (go_at_call 160; exact Calls.quiet_eq (cH.out _)) | (go_at_call 161; exact Calls.quiet_eq (cL.out _))))
      go_wp2_with (go_at_call 163; (with_reducible refine (List_Front h.out.drewN.p1 k hl.out).mono ?_); rintro r w3 ⟨rfl, h3⟩; have h3 := hide h3)
      go_ret
      rw [hr.out]
      exact ⟨rfl, h3.out.p1.toLru⟩
end Go.Proofs.YtbbdimlpofjlfaaGreatDoor
/- lru: Resize; Keys. -/
namespace Go.Proofs.YtbbdimlpofjlfaaGreatDoor
open Go Go.RowKit

/-- What a resizing holds. -/
def LruRes (cb ob b lb most : Nat) (v : Value) (l ks : List ByteArray) (F : List SProp) : List SProp :=
  OwnRow 9 1 v l.length (strs l) :: pts ob (.cells #[v] 23) :: pts cb (.cells #[.pointer (some ⟨b, 0, none⟩)] 159) :: IsList lb ks :: pts b (.cells #[.int .i64 (most : Nat), .pointer (some ⟨lb, 0, none⟩)] 242) :: F
set_option maxRecDepth 100000 in
theorem Lru_goes {g w : World} {cb ob b lb most : Nat} {v : Value} {l ks : List ByteArray} {F : List SProp} (h : Holds g w (LruRes cb ob b lb most v l ks F)) (hl : l.length ≤ 1000000) (hne : ks ≠ []) :
    Calls Tryz.prog 166 #[.pointer (some ⟨cb, 0, none⟩), .pointer (some ⟨ob, 0, none⟩)] w fun r w' => r = .returned (.tuple #[]) ∧ ∃ v', Holds g w' (LruRes cb ob b lb most v' (l ++ [kLast ks]) ks.dropLast F) := by
  unfold LruRes at h ⊢
  obtain ⟨ao, cap, rfl⟩ := rowForm h.ownsRow
  obtain ⟨x, hx⟩ : ∃ x, kLast ks = x := ⟨_, rfl⟩
  have hE : (!ks.isEmpty) = true := by cases ks; exact absurd rfl hne; rfl
  have cP := hide (List_Pop h.p3 x hx true hE)
  have c0 : w.cell? ⟨cb, 0, none⟩ = some (.pointer (some ⟨b, 0, none⟩)) := h.p2.cell rfl
  have c1 : w.cell? ⟨b, 1, none⟩ = some (.pointer (some ⟨lb, 0, none⟩)) := h.p4.cell rfl
  rw [hx]
  have hl := hide hl
  obtain ⟨ii, hi, hz0, hz1, hz2⟩ := info_parts infoStr
  have hi := hide hi
  have hz0 := hide hz0
  have hz1 := hide hz1
  have hz2 := hide hz2
  clear h hx hE hne
  go_enter Tryz.func166, Tryz.ntmps166
  go_wp2_with (first
    | (go_at_call 162; (with_reducible refine cP.out.mono ?_); rintro r w1 ⟨rfl, h1⟩; have o0 := Holds.cell (off := 0) h1.p2 rfl; have H12 := hide (h1.alloc' (o := .cells #[.string x] 9)).p1; clear h1)
    | (at_builtin; refine wpList_append_own_at _ rfl _ _ 23 rfl g.heap.size 9 ii (.string ⟨#[]⟩) 1 16 Tryz.underlying23 hi.out hz0.out hz1.out hz2.out rfl (by decide) _ l.length (strs l) rfl H12.out.ownsRow _ 1 _ [.string x] rfl rfl (newCells1 _ _ _ _ (by simp)) (by simp [Value.oneCell']) (by simp only [maxLen]; have := hl.out; omega) (by have := hl.out; omega) H12.out.size ?_; intro vn wn o1 g1 _ hb1; obtain ⟨ao2, cap2, rfl⟩ := rowForm o1; have H13 := hide (H12.out.grown o1 g1 (by rcases hb1 with hb1 | hb1 <;> first | exact .inl hb1 | exact .inr ⟨_, hb1, Nat.le_refl _⟩)); have y9 := Holds.free (off := 0) H13.out.p2; have p9 := Holds.cell (off := 0) H13.out.p2 rfl; clear o1 g1 hb1))
  go_end0
  refine ⟨rfl, .slice ao2 (l.length + 1) cap2, ?_⟩
  rw [List.length_append, List.length_singleton, show strs (l ++ [x]) = strs l ++ [.string x] from List.map_append]
  exact (H13.out.p2.setCell (off := 0) (v := .slice ao2 (l.length + 1) cap2)).p2.p3.p2.p3
set_option maxRecDepth 100000 in
set_option maxHeartbeats 1000000 in
theorem Lru_Resize {g w : World} {b : Nat} {s : Lru} {F : List SProp} (h : Holds g w (IsLru b s :: F)) (most : Nat) (hm : most ≤ 1000000000) (hl : s.ks.length ≤ 900000) :
    Calls Tryz.prog 77 #[.pointer (some ⟨b, 0, none⟩), .int .i64 (most : Nat)] w fun r w' => ∃ v, r = .returned v ∧ Holds g w' (OwnStrs v (s.resize most).2 :: IsLru b (s.resize most).1 :: F) := by
  obtain ⟨most0, ks⟩ := s
  obtain ⟨lb, h⟩ := h.isLru
  dsimp only at h hl
  have f1 : max (most : Int) 0 = most := by omega
  have HA := (h.alloc (o := .cells #[.pointer (some ⟨b, 0, none⟩)] 159)).p1
  have d0 : (w.alloc (.cells #[.pointer (some ⟨b, 0, none⟩)] 159)).cell? ⟨b, 0, none⟩ = some (.int .i64 most0) := HA.cell rfl
  have d0f : (w.alloc (.cells #[.pointer (some ⟨b, 0, none⟩)] 159)).frozen? ⟨b, 0, none⟩ = false := HA.free
  have HB := (((HA.setCell (off := 0) (v := .int .i64 (most : Nat))).alloc (o := .cells #[.slice none 0 0] 23)).ownNil 9 1)
  obtain ⟨cb, hcb⟩ : ∃ cb, w.heap.size = cb := ⟨_, rfl⟩
  obtain ⟨W1, hW1⟩ : ∃ W1, (w.alloc (.cells #[.pointer (some ⟨b, 0, none⟩)] 159)).setCell ⟨b, 0, none⟩ (.int .i64 (most : Nat)) = W1 := ⟨_, rfl⟩
  obtain ⟨res, hres⟩ : ∃ res, Lru.resize ⟨most0, ks⟩ most = res := ⟨_, rfl⟩
  rw [hres]
  have hres := hide hres
  have hl := hide hl
  rw [hW1, hcb] at HB
  have HB := hide HB
  clear h HA
  go_enter Tryz.func77, Tryz.ntmps77
  go_upto_region 4 with fail
  try simp only [hcb]
  try rw [hW1]
  clear hcb hW1 d0 d0f
  obtain ⟨ob, hob⟩ : ∃ ob, W1.heap.size = ob := ⟨_, rfl⟩
  simp only [hob] at HB ⊢
  have HC : Hide (Holds g (W1.alloc (.cells #[.slice none 0 0] 23)) (LruRes cb ob b lb most (.slice none 0 0) [] ks F)) := ⟨HB.out.p2.p4.p4.p4.p4⟩
  clear HB hob
  go_loopg [13] (ks.length) (fun k _ wr => ∃ j v, Hide (j = k) ∧ j ≤ ks.length ∧ Hide (j = ks.length ∨ most ≤ j) ∧ Holds g wr (LruRes cb ob b lb most v (ks.drop j).reverse (ks.take j) F))
  case atStart => exact ⟨ks.length, _, ⟨rfl⟩, Nat.le_refl _, ⟨.inl rfl⟩, by rw [List.drop_length, List.take_length]; exact HC.out⟩
  case round =>
    obtain ⟨j, v, hjk, hj, hjm, hh⟩ := hrel
    have hh0 := hide hh
    unfold LruRes at hh
    have hlj : (ks.take j).length = j := by rw [List.length_take]; omega
    have d0 : wr.cell? ⟨cb, 0, none⟩ = some (.pointer (some ⟨b, 0, none⟩)) := hh.p2.cell rfl
    have d1 : wr.cell? ⟨b, 1, none⟩ = some (.pointer (some ⟨lb, 0, none⟩)) := hh.p4.cell rfl
    have d2 : wr.cell? ⟨b, 0, none⟩ = some (.int .i64 most) := hh.p4.cell rfl
    have d3 : wr.cell? ⟨ob, 0, none⟩ = some v := hh.p1.cell rfl
    have cL := hide (fun m => List_Len (hh.drewN (n := m)).p3 j hlj)
    have hj := hide hj
    clear hh hlj HC
    by_cases hlt : most < j
    · have f2 : decide ((most : Int) < j) = true := decide_eq_true (by omega)
      have f3 : decide (most < j) = true := decide_eq_true hlt
      have hne : ks.take j ≠ [] := fun e => by
        have := congrArg List.length e
        have := hj.out
        rw [List.length_take, List.length_nil] at *
        omega
      have hll : (ks.drop j).reverse.length ≤ 1000000 := by have := hl.out; rw [List.length_reverse, List.length_drop]; omega
      have cG := hide (fun m => Lru_goes (hh0.out.drewN (n := m)) hll hne)
      have hstep : Hide ((ks.drop j).reverse ++ [kLast (ks.take j)] = (ks.drop (j - 1)).reverse ∧ (ks.take j).dropLast = ks.take (j - 1)) := ⟨by
        have hjl := hj.out
        obtain ⟨i, rfl⟩ : ∃ i, j = i + 1 := ⟨j - 1, by omega⟩
        rw [Nat.add_sub_cancel]
        have hil : i < ks.length := by omega
        have e1 : ks.drop i = ks[i] :: ks.drop (i + 1) := List.drop_eq_getElem_cons hil
        have e2 : ks.take (i + 1) = ks.take i ++ [ks[i]] := List.take_succ_eq_append_getElem hil
        rw [e1, List.reverse_cons, e2, List.dropLast_concat]
        rw [show kLast (ks.take i ++ [ks[i]]) = ks[i] by unfold kLast; rw [List.getLast?_concat]; rfl]
        exact ⟨rfl, rfl⟩⟩
      clear hne hll
      go_wp2
      go_quiet ((go_at_call 161; exact Calls.quiet_eq (cL.out _)))
      go_wp2_with (go_at_call 166; (with_reducible refine (cG.out _).mono ?_); rintro r w3 ⟨rfl, v3, h3⟩; rw [hstep.out.1, hstep.out.2] at h3; have h3 := hide h3)
      go_roundg (j - 1)
      case measure => rw [← hjk.out]; omega
      case rel => exact ⟨j - 1, v3, ⟨rfl⟩, by have := hj.out; omega, ⟨.inr (by omega)⟩, h3.out⟩
    · have f2 : decide ((most : Int) < j) = false := decide_eq_false (by omega)
      have f3 : decide (most < j) = false := decide_eq_false hlt
      have hr : Hide (res = (⟨most, ks.take j⟩, (ks.drop j).reverse)) := ⟨by
        rw [← hres.out]
        unfold Lru.resize
        have := hj.out
        rcases hjm.out with h | h
        · subst h
          dsimp only
          rw [List.take_of_length_le (show ks.length ≤ most by omega), List.drop_of_length_le (show ks.length ≤ most by omega), List.take_length, List.drop_length]
        · obtain rfl : j = most := by omega
          rfl⟩
      have hlt := hide hlt
      go_wp2
      go_quiet ((go_at_call 161; exact Calls.quiet_eq (cL.out _)))
      go_wp2
      go_ret
      refine ⟨_, rfl, ?_⟩
      rw [hr.out]
      have H5 := hh0.out.drewN (n := nq)
      unfold LruRes at H5
      exact (H5.p1.drop.p1.drop.p1.p2.toLru).p1
end Go.Proofs.YtbbdimlpofjlfaaGreatDoor
/- lru: Keys. -/
namespace Go.Proofs.YtbbdimlpofjlfaaGreatDoor
open Go Go.RowKit

set_option maxRecDepth 100000 in
theorem Lru_Keys {g w : World} {b : Nat} {s : Lru} {F : List SProp} (h : Holds g w (IsLru b s :: F)) (hl : s.ks.length ≤ 1000000) :
    Calls Tryz.prog 78 #[.pointer (some ⟨b, 0, none⟩)] w fun r w' => ∃ v, r = .returned v ∧ Holds g w' (OwnStrs v s.ks.reverse :: IsLru b s :: F) := by
  obtain ⟨most, ks⟩ := s
  obtain ⟨lb, h⟩ := h.isLru
  dsimp only at h hl ⊢
  have c1 : w.cell? ⟨b, 1, none⟩ = some (.pointer (some ⟨lb, 0, none⟩)) := h.cell rfl
  have h := hide h.p1
  have hl := hide hl
  go_enter Tryz.func78, Tryz.ntmps78
  go_wp2_with (first
    | (go_at_call 167; (with_reducible refine (List_Keys h.out).mono ?_); rintro r w1 ⟨v, rfl, h1⟩; have h1 := hide h1)
    | (go_at_call 168; (with_reducible refine (Rev_strs h1.out hl.out).mono ?_); rintro r w2 ⟨rfl, h2⟩; have h2 := hide h2))
  go_ret
  exact ⟨_, rfl, h2.out.p1.p2.toLru.p1⟩
end Go.Proofs.YtbbdimlpofjlfaaGreatDoor
