/- lfu. -/
import Derived.Test.YtbbdimlpofjlfaaGreatDoorQHp4
import Derived.Test.YtbbdimlpofjlfaaGreatDoorQLru1
namespace Go.Proofs.YtbbdimlpofjlfaaGreatDoor
open Go Go.RowKit

/-- What holds of an lfu cache. -/
structure LfuOk (s : Lfu) : Prop where
  now : 0 ≤ s.now
  came : s.came = s.now
  ones : ∀ x ∈ s.srt, 1 ≤ x.one ∧ x.one ≤ s.now
/-- An lfu cache's parts. -/
def LfuRaw (b hb : Nat) (s : Lfu) (F : List SProp) : List SProp :=
  pts b (.cells #[.int .i64 (s.most : Nat), .int .i64 s.now, .bool s.churn, .pointer (some ⟨hb, 0, none⟩)] 248) :: IsHeap hb s.srt s.came :: F
/-- An lfu cache at block b. -/
def IsLfu (b : Nat) (s : Lfu) : SProp := fun h => ∃ hb, LfuOk s ∧ All [pts b (.cells #[.int .i64 (s.most : Nat), .int .i64 s.now, .bool s.churn, .pointer (some ⟨hb, 0, none⟩)] 248), IsHeap hb s.srt s.came] h
theorem Holds.isLfu {g w : World} {b : Nat} {s : Lfu} {F : List SProp} (h : Holds g w (IsLfu b s :: F)) : ∃ hb, LfuOk s ∧ Holds g w (LfuRaw b hb s F) := by
  obtain ⟨hb, h⟩ := h.unex
  obtain ⟨h1, h⟩ := h.unfact
  exact ⟨hb, h1, h.unall⟩
theorem Holds.toLfu {g w : World} {b hb : Nat} {s : Lfu} {F : List SProp} (ok : LfuOk s) (h : Holds g w (LfuRaw b hb s F)) : Holds g w (IsLfu b s :: F) := by
  have h' : Holds g w (All [pts b (.cells #[.int .i64 (s.most : Nat), .int .i64 s.now, .bool s.churn, .pointer (some ⟨hb, 0, none⟩)] 248), IsHeap hb s.srt s.came] :: F) := Holds.all h
  exact h'.head fun x hx => ⟨hb, ok, hx⟩
theorem Lfu.times_le {s : Lfu} (ok : LfuOk s) (k : ByteArray) : 0 ≤ s.times k ∧ s.times k ≤ s.now := by
  unfold Lfu.times
  cases hf : hFind s.srt k with
  | none => exact ⟨Int.le_refl _, ok.now⟩
  | some x =>
    have hm : x ∈ s.srt := List.mem_of_find?_eq_some hf
    have := ok.ones x hm
    show 0 ≤ x.one ∧ x.one ≤ s.now
    omega
theorem Lfu.ask_ok {s : Lfu} (ok : LfuOk s) (k : ByteArray) : LfuOk (s.ask k) := by
  have ht := Lfu.times_le ok k
  have hn := ok.now
  have hc := ok.came
  refine ⟨by show 0 ≤ s.now + 1; omega, by show s.came + 1 = s.now + 1; omega, fun x hx => ?_⟩
  have hx' : x ∈ hSet s.srt s.came k (s.times k + 1) (if s.churn then -(s.now + 1) else s.now + 1) := hx
  unfold hSet at hx'
  show 1 ≤ x.one ∧ x.one ≤ s.now + 1
  rcases List.mem_cons.1 ((hIns_perm _ _).mem_iff.1 hx') with rfl | hx2
  · dsimp only
    omega
  · have := ok.ones x (List.mem_filter.1 hx2).1
    omega
theorem Lfu.pop_ok {s : Lfu} (ok : LfuOk s) : LfuOk s.pop := ⟨ok.now, ok.came, fun x hx => ok.ones x (List.mem_of_mem_tail hx)⟩
theorem Lfu.remove_ok {s : Lfu} (ok : LfuOk s) (k : ByteArray) : LfuOk (s.remove k) := ⟨ok.now, ok.came, fun x hx => ok.ones x (List.mem_filter.1 hx).1⟩
set_option maxRecDepth 100000 in
theorem Lfu_New {g w : World} {F : List SProp} (h : Holds g w F) (m : Nat) (hm : m ≤ 1000000000) (churn : Bool) :
    Calls Tryz.prog 80 #[.int .i64 (m : Nat), .bool churn] w fun r w' => ∃ b, r = .returned (.pointer (some ⟨b, 0, none⟩)) ∧ Holds g w' (IsLfu b ⟨m, 0, churn, [], 0⟩ :: F) := by
  have h := hide h
  have f1 : max (m : Int) 0 = m := by omega
  go_enter Tryz.func80, Tryz.ntmps80
  go_wp2_with (go_at_call 169; (with_reducible refine (Hp_New h.out).mono ?_); rintro r w1 ⟨lb, rfl, h1⟩; have h1 := hide h1)
  go_ret
  refine ⟨_, rfl, ?_⟩
  exact (h1.out.alloc (o := .cells #[.int .i64 (m : Nat), .int .i64 0, .bool churn, .pointer (some ⟨lb, 0, none⟩)] 248)).toLfu (s := ⟨m, 0, churn, [], 0⟩) ⟨Int.le_refl _, rfl, by simp⟩
set_option maxRecDepth 100000 in
theorem Lfu_Len {g w : World} {b : Nat} {s : Lfu} {F : List SProp} (h : Holds g w (IsLfu b s :: F)) (n : Nat) (hn : s.srt.length = n) :
    Calls Tryz.prog 82 #[.pointer (some ⟨b, 0, none⟩)] w fun r w' => r = .returned (.int .i64 n) ∧ w = w' := by
  obtain ⟨hb, ok, h⟩ := h.isLfu
  unfold LfuRaw at h
  have c1 := Holds.cell (off := 3) h rfl
  have cL := hide (Hp_Len h.p1 n hn)
  clear h hn
  go_enter Tryz.func82, Tryz.ntmps82
  go_wp2_with (go_at_call 171; (with_reducible refine cL.out.mono ?_); rintro r w1 ⟨rfl, rfl⟩)
  go_ret
  exact ⟨rfl, rfl⟩
set_option maxRecDepth 100000 in
theorem Lfu_TimesR {g w : World} {b hb : Nat} {s : Lfu} {F : List SProp} (h : Holds g w (LfuRaw b hb s F)) (k : ByteArray) (t : Int) (ht : s.times k = t) :
    Calls Tryz.prog 170 #[.pointer (some ⟨b, 0, none⟩), .string k] w fun r w' => r = .returned (.int .i64 t) ∧ Keep w w' := by
  unfold LfuRaw at h
  have c1 := Holds.cell (off := 3) h rfl
  have cL := hide (Hp_Rank h.p1 k t ht)
  clear h ht
  go_enter Tryz.func170, Tryz.ntmps170
  go_wp2_with (go_at_call 225; (with_reducible refine cL.out.mono ?_); rintro r w1 ⟨two, d, rfl, k1⟩; have k1 := hide k1)
  go_ret
  exact ⟨rfl, k1.out.alloc⟩
theorem Lfu_Times {g w : World} {b : Nat} {s : Lfu} {F : List SProp} (h : Holds g w (IsLfu b s :: F)) (k : ByteArray) (t : Int) (ht : s.times k = t) :
    Calls Tryz.prog 170 #[.pointer (some ⟨b, 0, none⟩), .string k] w fun r w' => r = .returned (.int .i64 t) ∧ Keep w w' := by
  obtain ⟨hb, ok, h⟩ := h.isLfu
  exact Lfu_TimesR h k t ht
set_option maxRecDepth 100000 in
theorem Lfu_Has {g w : World} {b : Nat} {s : Lfu} {F : List SProp} (h : Holds g w (IsLfu b s :: F)) (k : ByteArray) (d : Bool) (hd : s.has k = d) :
    Calls Tryz.prog 81 #[.pointer (some ⟨b, 0, none⟩), .string k] w fun r w' => r = .returned (.bool d) ∧ Keep w w' := by
  obtain ⟨t, ht⟩ : ∃ t, s.times k = t := ⟨_, rfl⟩
  have cL := hide (Lfu_Times h k t ht)
  have hd' : decide (0 < t) = d := by rw [← hd, ← ht]; rfl
  clear h ht hd
  subst hd'
  go_enter Tryz.func81, Tryz.ntmps81
  go_wp2_with (go_at_call 170; (with_reducible refine cL.out.mono ?_); rintro r w1 ⟨rfl, k1⟩; have k1 := hide k1)
  go_ret
  exact ⟨by first | rfl | simp, k1.out⟩
set_option maxRecDepth 100000 in
theorem Lfu_Victim {g w : World} {b : Nat} {s : Lfu} {F : List SProp} (h : Holds g w (IsLfu b s :: F)) (x : ByteArray) (hx : hFirst s.srt = x) (d : Bool) (hd : (!s.srt.isEmpty) = d) :
    Calls Tryz.prog 86 #[.pointer (some ⟨b, 0, none⟩)] w fun r w' => r = .returned (.tuple #[.string x, .bool d]) ∧ Keep w w' := by
  obtain ⟨hb, ok, h⟩ := h.isLfu
  unfold LfuRaw at h
  have c1 := Holds.cell (off := 3) h rfl
  have cL := hide (Hp_Least h.p1 x hx d hd)
  clear h hx hd
  go_enter Tryz.func86, Tryz.ntmps86
  go_wp2_with (go_at_call 175; (with_reducible refine cL.out.mono ?_); rintro r w1 ⟨one, two, rfl, k1⟩; have k1 := hide k1)
  go_ret2
  exact ⟨rfl, k1.out.alloc⟩
set_option maxRecDepth 100000 in
theorem Lfu_Drop {g w : World} {b : Nat} {s : Lfu} {F : List SProp} (h : Holds g w (IsLfu b s :: F)) (x : ByteArray) (hx : hFirst s.srt = x) (d : Bool) (hd : (!s.srt.isEmpty) = d) :
    Calls Tryz.prog 87 #[.pointer (some ⟨b, 0, none⟩)] w fun r w' => r = .returned (.tuple #[.string x, .bool d]) ∧ Holds g w' (IsLfu b s.pop :: F) := by
  obtain ⟨hb, ok, h⟩ := h.isLfu
  unfold LfuRaw at h
  have c1 := Holds.cell (off := 3) h rfl
  have cL := hide (Hp_Pop h.p1 x hx d hd)
  clear h hx hd
  go_enter Tryz.func87, Tryz.ntmps87
  go_wp2_with (go_at_call 172; (with_reducible refine cL.out.mono ?_); rintro r w1 ⟨rfl, h1⟩; have h1 := hide h1)
  go_ret2
  exact ⟨rfl, Holds.toLfu (Lfu.pop_ok ok) h1.out.p1⟩
theorem Lfu.has_iff {s : Lfu} (ok : LfuOk s) (k : ByteArray) : s.has k = decide (k ∈ s.srt.map (·.key)) := by
  unfold Lfu.has Lfu.times
  by_cases hk : k ∈ s.srt.map (·.key)
  · rw [decide_eq_true hk]
    cases hf : hFind s.srt k with
    | none =>
      exfalso
      obtain ⟨x, hx, hxk⟩ := List.mem_map.1 hk
      unfold hFind at hf
      rw [List.find?_eq_none] at hf
      exact hf x hx (by simpa using hxk)
    | some x =>
      have := ok.ones x (List.mem_of_find?_eq_some hf)
      exact decide_eq_true (show 0 < x.one by omega)
  · rw [decide_eq_false hk, hFind_none hk]
    rfl
set_option maxRecDepth 100000 in
theorem Lfu_Remove {g w : World} {b : Nat} {s : Lfu} {F : List SProp} (h : Holds g w (IsLfu b s :: F)) (k : ByteArray) (d : Bool) (hd : s.has k = d) :
    Calls Tryz.prog 84 #[.pointer (some ⟨b, 0, none⟩), .string k] w fun r w' => r = .returned (.bool d) ∧ Holds g w' (IsLfu b (s.remove k) :: F) := by
  obtain ⟨hb, ok, h⟩ := h.isLfu
  rw [Lfu.has_iff ok] at hd
  unfold LfuRaw at h
  have c1 := Holds.cell (off := 3) h rfl
  have cL := hide (Hp_Remove h.p1 k d hd)
  clear h hd
  go_enter Tryz.func84, Tryz.ntmps84
  go_wp2_with (go_at_call 174; (with_reducible refine cL.out.mono ?_); rintro r w1 ⟨rfl, h1⟩; have h1 := hide h1)
  go_ret
  exact ⟨rfl, Holds.toLfu (Lfu.remove_ok ok k) h1.out.p1⟩
set_option maxRecDepth 100000 in
set_option maxHeartbeats 1000000 in
theorem Lfu_ask {g w : World} {b : Nat} {s : Lfu} {F : List SProp} (h : Holds g w (IsLfu b s :: F)) (k : ByteArray) (hl : s.srt.length < 1000000) (hn : s.now < 100000000000000) :
    Calls Tryz.prog 173 #[.pointer (some ⟨b, 0, none⟩), .string k] w fun r w' => r = .returned (.tuple #[]) ∧ Holds g w' (IsLfu b (s.ask k) :: F) := by
  obtain ⟨hb, ok, h⟩ := h.isLfu
  obtain ⟨t, ht⟩ : ∃ t, s.times k = t := ⟨_, rfl⟩
  have htl := Lfu.times_le ok k
  rw [ht] at htl
  have hok2 := hide (Lfu.ask_ok ok k)
  obtain ⟨s2, hs2⟩ : ∃ s2, s.ask k = s2 := ⟨_, rfl⟩
  rw [hs2] at hok2 ⊢
  obtain ⟨when, hwhen⟩ : ∃ x, (if s.churn then -(s.now + 1) else s.now + 1) = x := ⟨_, rfl⟩
  have hs3 : Hide (s2 = ⟨s.most, s.now + 1, s.churn, hSet s.srt s.came k (t + 1) when, s.came + 1⟩) := ⟨by
    rw [← hs2, ← hwhen, ← ht]; rfl⟩
  have hnow := ok.now
  have hcame := hide ok.came
  obtain ⟨most, now, churn, srt, came⟩ := s
  dsimp only at *
  obtain ⟨now', hnow'⟩ : ∃ n, now + 1 = n := ⟨_, rfl⟩
  have e1 : IntKind.i64.wrap (now + 1) = now' := by rw [IntWalk.i64_in _ (by omega)]; exact hnow'
  have e2 : IntKind.i64.wrap (-now') = -now' := IntWalk.i64_in _ (by omega)
  have e3 : IntKind.i64.wrap (t + 1) = t + 1 := IntWalk.i64_in _ (by omega)
  have hcame' : Hide (0 ≤ came ∧ came < 1000000000000000) := ⟨by have := hcame.out; omega⟩
  have hl' := hide hl
  rw [hnow'] at hwhen hs3
  unfold LfuRaw at h
  dsimp only at h
  have c1 := Holds.cell (off := 1) h rfl
  have c1f := Holds.free (off := 1) h
  have HB : Hide (Holds g (w.setCell ⟨b, 1, none⟩ (.int .i64 now')) (LfuRaw b hb ⟨most, now', churn, srt, came⟩ F)) := ⟨h.setCell (off := 1) (v := .int .i64 now')⟩
  have ht : Hide (Lfu.times ⟨most, now', churn, srt, came⟩ k = t) := ⟨ht⟩
  have cT := hide (Lfu_TimesR HB.out.drew k t ht.out)
  have hs3 := hide hs3.out
  clear h hl hs2 htl hcame
  have hnow' := hide hnow'
  have a1 := Holds.cell (off := 1) HB.out rfl
  have a2 := Holds.cell (off := 2) HB.out rfl
  have st := hide (fun w' (k : Keep (w.setCell ⟨b, 1, none⟩ (.int .i64 now')).drew w') => k.cell (Holds.cell (off := 3) HB.out.drew rfl))
  have kq := hide (Keep.refl (w.setCell ⟨b, 1, none⟩ (.int .i64 now')).drew)
  cases churn with
  | true =>
    obtain rfl : -now' = when := hwhen
    go_enter Tryz.func173, Tryz.ntmps173
    go_upto_region 4 with fail
    go_region_held3 (fun w' => w'.cell? ⟨b, 3, none⟩ = some (.pointer (some ⟨hb, 0, none⟩))) (first | exact st.out _ kq.out | exact S2.out)
      ((first
        | (go_at_call 170; (with_reducible refine cT.out.mono ?_); rintro r w3 ⟨rfl, k3⟩; replace kq := hide k3; have H3 := hide (HB.out.drew.keep k3); clear k3)
        | (go_at_call 226; (with_reducible refine (Hp_Set (Holds.p1 H3.out) k (t + 1) (-now') hcame'.out.1 hcame'.out.2 hl'.out).mono ?_); rintro r w4 ⟨rfl, h4⟩; have h4 := hide h4; have S2 := hide (Holds.cell (off := 3) (Holds.p1 h4.out) rfl))))
    all_goals
      go_wp2
      go_end0
      refine ⟨rfl, ?_⟩
      rw [hs3.out] at hok2 ⊢
      exact Holds.toLfu hok2.out h4.out.p1
  | false =>
    obtain rfl : now' = when := hwhen
    go_enter Tryz.func173, Tryz.ntmps173
    go_upto_region 4 with fail
    go_region_held3 (fun w' => w'.cell? ⟨b, 3, none⟩ = some (.pointer (some ⟨hb, 0, none⟩))) (first | exact st.out _ kq.out | exact S2.out)
      ((first
        | (go_at_call 170; (with_reducible refine cT.out.mono ?_); rintro r w3 ⟨rfl, k3⟩; replace kq := hide k3; have H3 := hide (HB.out.drew.keep k3); clear k3)
        | (go_at_call 226; (with_reducible refine (Hp_Set (Holds.p1 H3.out) k (t + 1) (now') hcame'.out.1 hcame'.out.2 hl'.out).mono ?_); rintro r w4 ⟨rfl, h4⟩; have h4 := hide h4; have S2 := hide (Holds.cell (off := 3) (Holds.p1 h4.out) rfl))))
    all_goals
      go_wp2
      go_end0
      refine ⟨rfl, ?_⟩
      rw [hs3.out] at hok2 ⊢
      exact Holds.toLfu hok2.out h4.out.p1
end Go.Proofs.YtbbdimlpofjlfaaGreatDoor
/- lfu: Request, Adopt. -/
namespace Go.Proofs.YtbbdimlpofjlfaaGreatDoor
open Go Go.RowKit

set_option maxRecDepth 100000 in
set_option maxHeartbeats 2000000 in
theorem Lfu_Request {g w : World} {b : Nat} {s : Lfu} {F : List SProp} (h : Holds g w (IsLfu b s :: F)) (k : ByteArray) (hl : s.srt.length < 900000) (hnw : s.now < 100000000000000) :
    Calls Tryz.prog 83 #[.pointer (some ⟨b, 0, none⟩), .string k] w fun r w' => r = .returned (stepV (s.req k).2) ∧ Holds g w' (IsLfu b (s.req k).1 :: F) := by
  obtain ⟨d, hd⟩ : ∃ d, s.has k = d := ⟨_, rfl⟩
  obtain ⟨n, hn⟩ : ∃ n, s.srt.length = n := ⟨_, rfl⟩
  obtain ⟨most, hmo⟩ : ∃ n, s.most = n := ⟨_, rfl⟩
  have HK := hide (h.alloc (o := .cells #[.bool false, .string ⟨#[]⟩, .bool false] 34))
  have cH := hide (Lfu_Has HK.out.p1 k d hd)
  obtain ⟨r4, hr4⟩ : ∃ r4, w.heap.size = r4 := ⟨_, rfl⟩
  rw [hr4] at HK
  obtain ⟨res, hres⟩ : ∃ res, Lfu.req s k = res := ⟨_, rfl⟩
  rw [hres]
  have hres := hide hres
  have hl := hide (show s.srt.length < 1000000 by omega)
  have hnw := hide hnw
  have hmo := hide hmo
  have hn := hide hn
  have hd := hide hd
  clear h
  go_enter Tryz.func83, Tryz.ntmps83
  go_upto_region 2 with (go_at_call 81; (with_reducible refine cH.out.mono ?_); rintro r w1 ⟨rfl, k1⟩; have HA := hide ((HK.out.keep k1).alloc (o := .cells #[.bool d, .string ⟨#[]⟩, .bool false] 34)); clear k1)
  try simp only [hr4]
  obtain ⟨r5, hr5⟩ : ∃ r5, w1.heap.size = r5 := ⟨_, rfl⟩
  simp only [hr5] at HA ⊢
  generalize w1.alloc (.cells #[.bool d, .string ⟨#[]⟩, .bool false] 34) = W2 at HA ⊢
  clear hr5 hr4 HK cH
  obtain ⟨t0, t1, t2⟩ := cells3 HA.out
  obtain ⟨z0, z1, z2⟩ := cells3 HA.out.p1
  obtain ⟨f0, f1, f2⟩ := free3 HA.out.p1
  obtain ⟨hb, ok, hraw⟩ := (Holds.p2 HA.out).isLfu
  unfold LfuRaw at hraw
  rw [hmo.out] at hraw
  have c0 := Holds.cell (off := 0) hraw rfl
  have c3 := Holds.cell (off := 3) hraw rfl
  have ok := hide ok
  have hraw := hide hraw
  by_cases h0 : most = 0
  · subst h0
    have HR := put3 HA.out.p1 (.bool d) (.string ⟨#[]⟩) (.bool false)
    go_wp2
    refine bodyPost_ret (ret_step rfl HR rfl) rfl ?_
    rw [show res = (s, ⟨d, bNil, false⟩) by rw [← hres.out]; unfold Lfu.req; rw [if_pos hmo.out, hd.out]]
    exact ⟨rfl, HR.drop.drop⟩
  · have g0 : ((most : Int) == 0) = false := by rw [beq_eq_false_iff_ne]; omega
    have h0 := hide h0
    cases d with
    | true =>
      go_wp2
      go_quiet (fail)
      go_wp2_with (go_at_call 173; (with_reducible refine (Lfu_ask (Holds.p2 HA.out.drewN) k hl.out hnw.out).mono ?_); rintro r w3 ⟨rfl, h3⟩; have h3 := hide h3; obtain ⟨a0, a1, a2⟩ := cells3 h3.out.p1; obtain ⟨b0, b1, b2⟩ := cells3 h3.out.p2; obtain ⟨e0, e1, e2⟩ := free3 h3.out.p2)
      have HR := put3 h3.out.p2 (.bool true) (.string ⟨#[]⟩) (.bool false)
      refine bodyPost_ret (ret_step rfl HR rfl) rfl ?_
      rw [show res = (s.ask k, ⟨true, bNil, false⟩) by rw [← hres.out]; unfold Lfu.req; rw [if_neg (by rw [hmo.out]; exact h0.out), if_pos hd.out]]
      exact ⟨rfl, HR.drop.p1.drop⟩
    | false =>
      have cL := hide (fun m => Lfu_Len ((Holds.p2 HA.out).drewN (n := m)) n hn.out)
      by_cases hf : most ≤ n
      · have hf1 : decide ((most : Int) ≤ n) = true := decide_eq_true (by omega)
        have hf := hide hf
        have hne : s.srt ≠ [] := by
          intro e
          have := hn.out
          have := h0.out
          have := hf.out
          rw [e] at *
          simp at *
          omega
        obtain ⟨x, hx⟩ : ∃ x, hFirst s.srt = x := ⟨_, rfl⟩
        have hE : (!s.srt.isEmpty) = true := by
          cases hq : s.srt with
          | nil => exact absurd hq hne
          | cons _ _ => rfl
        have cP := hide (fun m => Hp_Pop ((Holds.p1 hraw.out).drewN (n := m)) x hx true hE)
        have hx := hide hx
        have hlp : Hide (s.pop.srt.length < 1000000) := ⟨by have := hl.out; show s.srt.tail.length < 1000000; rw [List.length_tail]; omega⟩
        have hnp : Hide (s.pop.now < 100000000000000) := ⟨hnw.out⟩
        have hok := hide (Lfu.pop_ok ok.out)
        have hraw' := hide hmo.out
        clear hne hE
        go_wp2
        go_quiet ((go_at_call 82; exact Calls.quiet_eq (cL.out _)))
        go_wp2_with (first
          | (go_at_call 172; (with_reducible refine (cP.out _).mono ?_); rintro r w3 ⟨rfl, h3⟩; rw [← hmo.out] at h3; have h3 : Holds g w3 (IsLfu b s.pop :: _) := Holds.toLfu (s := s.pop) hok.out h3.p1; obtain ⟨a0, a1, a2⟩ := cells3 h3.p1; obtain ⟨e0, e1, e2⟩ := free3 h3.p1; have HS := hide (setAt (setAt h3.p1 (off := 1) (v := .string x) (by simp; rfl)) (off := 2) (v := .bool true) (by simp; rfl)).p1; clear h3)
          | (go_at_call 173; (with_reducible refine (Lfu_ask HS.out k hlp.out hnp.out).mono ?_); rintro r w4 ⟨rfl, h4⟩; have h4 := hide h4; obtain ⟨a0, a1, a2⟩ := cells3 h4.out.p1; obtain ⟨b0, b1, b2⟩ := cells3 h4.out.p2; obtain ⟨e0, e1, e2⟩ := free3 h4.out.p2))
        have HR := put3 h4.out.p2 (.bool false) (.string x) (.bool true)
        refine bodyPost_ret (ret_step rfl HR rfl) rfl ?_
        rw [show res = (s.pop.ask k, ⟨false, x, true⟩) by rw [← hres.out]; unfold Lfu.req; rw [if_neg (by rw [hmo.out]; exact h0.out), if_neg (by rw [hd.out]; decide), if_pos (by rw [hn.out, hmo.out]; exact hf.out), hx.out]]
        exact ⟨rfl, HR.drop.p1.drop⟩
      · have hf1 : decide ((most : Int) ≤ n) = false := decide_eq_false (by omega)
        have hf := hide hf
        go_wp2
        go_quiet ((go_at_call 82; exact Calls.quiet_eq (cL.out _)))
        go_wp2_with (go_at_call 173; (with_reducible refine (Lfu_ask (Holds.p2 HA.out.drewN) k hl.out hnw.out).mono ?_); rintro r w3 ⟨rfl, h3⟩; have h3 := hide h3; obtain ⟨a0, a1, a2⟩ := cells3 h3.out.p1; obtain ⟨b0, b1, b2⟩ := cells3 h3.out.p2; obtain ⟨e0, e1, e2⟩ := free3 h3.out.p2)
        have HR := put3 h3.out.p2 (.bool false) (.string ⟨#[]⟩) (.bool false)
        refine bodyPost_ret (ret_step rfl HR rfl) rfl ?_
        rw [show res = (s.ask k, ⟨false, bNil, false⟩) by rw [← hres.out]; unfold Lfu.req; rw [if_neg (by rw [hmo.out]; exact h0.out), if_neg (by rw [hd.out]; decide), if_neg (by rw [hn.out, hmo.out]; exact hf.out)]]
        exact ⟨rfl, HR.drop.p1.drop⟩
set_option maxRecDepth 100000 in
set_option maxHeartbeats 2000000 in
theorem Lfu_Adopt {g w : World} {b : Nat} {s : Lfu} {F : List SProp} (h : Holds g w (IsLfu b s :: F)) (k : ByteArray) (hl : s.srt.length < 900000) (hnw : s.now < 100000000000000) :
    Calls Tryz.prog 85 #[.pointer (some ⟨b, 0, none⟩), .string k] w fun r w' => r = .returned (.bool (s.adopt k).2) ∧ Holds g w' (IsLfu b (s.adopt k).1 :: F) := by
  obtain ⟨d, hd⟩ : ∃ d, s.has k = d := ⟨_, rfl⟩
  obtain ⟨n, hn⟩ : ∃ n, s.srt.length = n := ⟨_, rfl⟩
  obtain ⟨most, hmo⟩ : ∃ n, s.most = n := ⟨_, rfl⟩
  have cH := hide (fun w' (k1 : Keep w w') => Lfu_Has (h.keep k1) k d hd)
  have cL := hide (fun w' (k1 : Keep w w') => Lfu_Len (h.keep k1) n hn)
  obtain ⟨hb, ok, hraw⟩ := h.isLfu
  unfold LfuRaw at hraw
  rw [hmo] at hraw
  have c0 := Holds.cell (off := 0) hraw rfl
  have st := hide (fun w' (k1 : Keep w w') => k1.cell c0)
  clear hraw ok
  obtain ⟨res, hres⟩ : ∃ res, Lfu.adopt s k = res := ⟨_, rfl⟩
  rw [hres]
  have hres := hide hres
  have h := hide h
  have hd := hide hd
  have hn := hide hn
  have hmo := hide hmo
  have hl := hide (show s.srt.length < 1000000 by omega)
  have hnw := hide hnw
  have kq := hide (Keep.refl w).drew
  cases d with
  | true =>
    have hr : Hide (res = (s, false)) := ⟨by rw [← hres.out]; unfold Lfu.adopt; rw [if_pos (.inl hd.out)]⟩
    go_enter Tryz.func85, Tryz.ntmps85
    go_wp2
    (refine wp_region_kept (by kernel_rfl) (by kernel_rfl) ?_; (repeat (go_big_quiet_step ((go_at_call 81; exact KeptOf.calls (cH.out _ (KeptOf.keep _)))))); refine wpQuiet_nil ?_; intro _ hw'; obtain ⟨uq, hw''⟩ := hw'; subst hw'')
    go_wp2
    go_ret
    rw [hr.out]
    exact ⟨rfl, h.out.keep uq.keep⟩
  | false =>
    by_cases hf : most ≤ n
    · have hf1 : decide ((most : Int) ≤ n) = true := decide_eq_true (by omega)
      have hf2 : decide (most ≤ n) = true := decide_eq_true hf
      have hf3 : most ≤ n := hf
      have hr : Hide (res = (s, false)) := ⟨by rw [← hres.out]; unfold Lfu.adopt; rw [if_pos (.inr (by rw [hn.out, hmo.out]; exact hf))]⟩
      clear hf
      go_enter Tryz.func85, Tryz.ntmps85
      go_wp2
      go_region_held3 (fun w' => w'.cell? ⟨b, 0, none⟩ = some (.int .i64 (most : Nat))) (exact st.out _ kq.out)
        ((first
          | (go_at_call 81; (with_reducible refine (cH.out _ kq.out).mono ?_); rintro r w1 ⟨rfl, k1⟩; replace kq := hide (kq.out.trans k1); clear k1)
          | (go_at_call 82; (with_reducible refine (cL.out _ kq.out).mono ?_); rintro r w1 ⟨rfl, rfl⟩)))
      all_goals
        go_wp2
        go_ret
        rw [hr.out]
        exact ⟨rfl, h.out.keep kq.out⟩
    · have hf1 : decide ((most : Int) ≤ n) = false := decide_eq_false (by omega)
      have hf2 : decide (most ≤ n) = false := decide_eq_false hf
      have hf3 : n < most := by omega
      have hr : Hide (res = (s.ask k, true)) := ⟨by rw [← hres.out]; unfold Lfu.adopt; rw [if_neg (by rw [hn.out, hmo.out, hd.out]; exact fun hh => hh.elim (by decide) hf)]⟩
      clear hf
      go_enter Tryz.func85, Tryz.ntmps85
      go_wp2
      go_region_held3 (fun w' => w'.cell? ⟨b, 0, none⟩ = some (.int .i64 (most : Nat))) (exact st.out _ kq.out)
        ((first
          | (go_at_call 81; (with_reducible refine (cH.out _ kq.out).mono ?_); rintro r w1 ⟨rfl, k1⟩; replace kq := hide (kq.out.trans k1); clear k1)
          | (go_at_call 82; (with_reducible refine (cL.out _ kq.out).mono ?_); rintro r w1 ⟨rfl, rfl⟩)))
      all_goals
        go_wp2_with (go_at_call 173; (with_reducible refine (Lfu_ask (h.out.keep kq.out) k hl.out hnw.out).mono ?_); rintro r w3 ⟨rfl, h3⟩; have h3 := hide h3)
        go_ret
        rw [hr.out]
        exact ⟨rfl, h3.out⟩
end Go.Proofs.YtbbdimlpofjlfaaGreatDoor
/- lfu: Resize. -/
namespace Go.Proofs.YtbbdimlpofjlfaaGreatDoor
open Go Go.RowKit

/-- What a resizing holds. -/
def LfuRes (cb ob b : Nat) (s : Lfu) (v : Value) (l : List ByteArray) (F : List SProp) : List SProp :=
  OwnRow 9 1 v l.length (strs l) :: pts ob (.cells #[v] 23) :: pts cb (.cells #[.pointer (some ⟨b, 0, none⟩)] 161) :: IsLfu b s :: F
set_option maxRecDepth 100000 in
theorem Lfu_goes {g w : World} {cb ob b : Nat} {s : Lfu} {v : Value} {l : List ByteArray} {F : List SProp} (h : Holds g w (LfuRes cb ob b s v l F)) (hl : l.length ≤ 1000000) (hne : s.srt ≠ []) :
    Calls Tryz.prog 176 #[.pointer (some ⟨cb, 0, none⟩), .pointer (some ⟨ob, 0, none⟩)] w fun r w' => r = .returned (.tuple #[]) ∧ ∃ v', Holds g w' (LfuRes cb ob b s.pop v' (l ++ [hFirst s.srt]) F) := by
  unfold LfuRes at h ⊢
  obtain ⟨ao, cap, rfl⟩ := rowForm h.ownsRow
  obtain ⟨x, hx⟩ : ∃ x, hFirst s.srt = x := ⟨_, rfl⟩
  have hE : (!s.srt.isEmpty) = true := by
    cases hq : s.srt with
    | nil => exact absurd hq hne
    | cons _ _ => rfl
  have c0 : w.cell? ⟨cb, 0, none⟩ = some (.pointer (some ⟨b, 0, none⟩)) := h.p2.cell rfl
  obtain ⟨hb, ok, hraw⟩ := (Holds.p3 h).isLfu
  unfold LfuRaw at hraw
  have c1 : w.cell? ⟨b, 3, none⟩ = some (.pointer (some ⟨hb, 0, none⟩)) := Holds.cell hraw rfl
  have cP := hide (Hp_Pop hraw.p1 x hx true hE)
  have hok := hide (Lfu.pop_ok ok)
  rw [hx]
  have hl := hide hl
  obtain ⟨ii, hi, hz0, hz1, hz2⟩ := info_parts infoStr
  have hi := hide hi
  have hz0 := hide hz0
  have hz1 := hide hz1
  have hz2 := hide hz2
  clear h hx hE hne hraw ok
  go_enter Tryz.func176, Tryz.ntmps176
  go_wp2_with (first
    | (go_at_call 172; (with_reducible refine cP.out.mono ?_); rintro r w1 ⟨rfl, h1⟩; have h1 : Holds g w1 (IsLfu b s.pop :: _) := Holds.toLfu (s := s.pop) hok.out h1.p1; have o0 := Holds.cell (off := 0) h1.p2 rfl; have H12 := hide (h1.alloc' (o := .cells #[.string x] 9)).p1; clear h1)
    | (at_builtin; refine wpList_append_own_at _ rfl _ _ 23 rfl g.heap.size 9 ii (.string ⟨#[]⟩) 1 16 Tryz.underlying23 hi.out hz0.out hz1.out hz2.out rfl (by decide) _ l.length (strs l) rfl H12.out.ownsRow _ 1 _ [.string x] rfl rfl (newCells1 _ _ _ _ (by simp)) (by simp [Value.oneCell']) (by simp only [maxLen]; have := hl.out; omega) (by have := hl.out; omega) H12.out.size ?_; intro vn wn o1 g1 _ hb1; obtain ⟨ao2, cap2, rfl⟩ := rowForm o1; have H13 := hide (H12.out.grown o1 g1 (by rcases hb1 with hb1 | hb1 <;> first | exact .inl hb1 | exact .inr ⟨_, hb1, Nat.le_refl _⟩)); have y9 := Holds.free (off := 0) H13.out.p2; have p9 := Holds.cell (off := 0) H13.out.p2 rfl; clear o1 g1 hb1))
  go_end0
  refine ⟨rfl, .slice ao2 (l.length + 1) cap2, ?_⟩
  rw [List.length_append, List.length_singleton, show strs (l ++ [x]) = strs l ++ [.string x] from List.map_append]
  exact (H13.out.p2.setCell (off := 0) (v := .slice ao2 (l.length + 1) cap2)).p2.p3.p2.p3
/-- The first i are off. -/
def Lfu.off (s : Lfu) (i : Nat) : Lfu := ⟨s.most, s.now, s.churn, s.srt.drop i, s.came⟩
theorem Lfu.off_pop (s : Lfu) (i : Nat) : (s.off i).pop = s.off (i + 1) := by
  unfold Lfu.off Lfu.pop
  dsimp only
  rw [List.tail_drop]
set_option maxRecDepth 100000 in
set_option maxHeartbeats 1000000 in
theorem Lfu_Resize {g w : World} {b : Nat} {s : Lfu} {F : List SProp} (h : Holds g w (IsLfu b s :: F)) (most : Nat) (hm : most ≤ 1000000000) (hl : s.srt.length ≤ 900000) :
    Calls Tryz.prog 88 #[.pointer (some ⟨b, 0, none⟩), .int .i64 (most : Nat)] w fun r w' => ∃ v, r = .returned v ∧ Holds g w' (OwnStrs v (s.resize most).2 :: IsLfu b (s.resize most).1 :: F) := by
  obtain ⟨hb, ok, hraw⟩ := h.isLfu
  obtain ⟨s1, hs1⟩ : ∃ s1 : Lfu, (⟨most, s.now, s.churn, s.srt, s.came⟩ : Lfu) = s1 := ⟨_, rfl⟩
  have hok : Hide (LfuOk s1) := ⟨by rw [← hs1]; exact ⟨ok.now, ok.came, ok.ones⟩⟩
  have hres : Hide (s.resize most = (s1.off (s1.srt.length - most), hKeys (s1.srt.take (s1.srt.length - most)))) := ⟨by rw [← hs1]; rfl⟩
  have hl : Hide (s1.srt.length ≤ 900000) := ⟨by rw [← hs1]; exact hl⟩
  have hms : Hide (s1.most = most) := ⟨by rw [← hs1]⟩
  obtain ⟨cb, hcb⟩ : ∃ cb, w.heap.size = cb := ⟨_, rfl⟩
  have HA := hraw.alloc (o := .cells #[.pointer (some ⟨b, 0, none⟩)] 161)
  rw [hcb] at HA
  unfold LfuRaw at HA
  have d0 := Holds.cell (off := 0) HA.p1 rfl
  have d0f := Holds.free (off := 0) HA.p1
  have HB : Holds g ((w.alloc (.cells #[.pointer (some ⟨b, 0, none⟩)] 161)).setCell ⟨b, 0, none⟩ (.int .i64 (most : Nat))) (LfuRaw b hb s1 (pts cb (.cells #[.pointer (some ⟨b, 0, none⟩)] 161) :: F)) := by
    rw [← hs1]
    exact ((HA.p1.setCell (off := 0) (v := .int .i64 (most : Nat)))).p2.p1
  have HB := hide (((Holds.toLfu hok.out HB).alloc (o := .cells #[.slice none 0 0] 23)).ownNil 9 1)
  obtain ⟨W1, hW1⟩ : ∃ W1, (w.alloc (.cells #[.pointer (some ⟨b, 0, none⟩)] 161)).setCell ⟨b, 0, none⟩ (.int .i64 (most : Nat)) = W1 := ⟨_, rfl⟩
  rw [hW1] at HB
  obtain ⟨res, hre⟩ : ∃ res, s.resize most = res := ⟨_, rfl⟩
  rw [hre] at hres ⊢
  have f1 : max (most : Int) 0 = most := by omega
  clear h HA hraw ok hre hs1
  go_enter Tryz.func88, Tryz.ntmps88
  go_upto_region 4 with fail
  try simp only [hcb]
  try rw [hW1]
  clear hcb hW1 d0 d0f
  obtain ⟨ob, hob⟩ : ∃ ob, W1.heap.size = ob := ⟨_, rfl⟩
  simp only [hob] at HB ⊢
  have HC : Hide (Holds g (W1.alloc (.cells #[.slice none 0 0] 23)) (LfuRes cb ob b s1 (.slice none 0 0) [] F)) := ⟨HB.out.p3.p2.p2⟩
  clear HB hob
  go_loopg [13] (s1.srt.length) (fun k _ wr => ∃ i j v, Hide (j = k) ∧ Hide (i + j = s1.srt.length) ∧ Hide (i = 0 ∨ most ≤ j) ∧ Holds g wr (LfuRes cb ob b (s1.off i) v (hKeys (s1.srt.take i)) F))
  case atStart => exact ⟨0, s1.srt.length, _, ⟨rfl⟩, ⟨Nat.zero_add _⟩, ⟨.inl rfl⟩, HC.out⟩
  case round =>
    clear HC
    obtain ⟨i, j, v, hjk, hij, hjm, hh⟩ := hrel
    have hh0 := hide hh
    unfold LfuRes at hh
    have hlj : (s1.off i).srt.length = j := by show (s1.srt.drop i).length = j; rw [List.length_drop]; have := hij.out; omega
    have d0 : wr.cell? ⟨cb, 0, none⟩ = some (.pointer (some ⟨b, 0, none⟩)) := hh.p2.cell rfl
    have d3 : wr.cell? ⟨ob, 0, none⟩ = some v := hh.p1.cell rfl
    obtain ⟨hb, ok2, hraw⟩ := (Holds.p3 hh).isLfu
    unfold LfuRaw at hraw
    have d2 : wr.cell? ⟨b, 0, none⟩ = some (.int .i64 (most : Nat)) := by
      have := Holds.cell (off := 0) hraw rfl
      rw [show (s1.off i).most = most from hms.out] at this
      exact this
    have cL := hide (fun m => Lfu_Len ((Holds.p3 hh).drewN (n := m)) j hlj)
    clear hh hraw ok2
    by_cases hlt : most < j
    · have f2 : decide ((most : Int) < j) = true := decide_eq_true (by omega)
      have f3 : decide (most < j) = true := decide_eq_true hlt
      have hne : (s1.off i).srt ≠ [] := fun e => by
        have := congrArg List.length e
        rw [hlj, List.length_nil] at this
        omega
      have hll : (hKeys (s1.srt.take i)).length ≤ 1000000 := by have := hl.out; unfold hKeys; rw [List.length_map, List.length_take]; omega
      have cG := hide (fun m => Lfu_goes (hh0.out.drewN (n := m)) hll hne)
      have hstep : Hide (hKeys (s1.srt.take i) ++ [hFirst (s1.off i).srt] = hKeys (s1.srt.take (i + 1)) ∧ (s1.off i).pop = s1.off (i + 1)) := ⟨by
        have hil : i < s1.srt.length := by have := hij.out; omega
        refine ⟨?_, Lfu.off_pop _ _⟩
        rw [List.take_succ_eq_append_getElem hil]
        unfold hKeys
        rw [List.map_append]
        show _ ++ [hFirst (s1.srt.drop i)] = _
        rw [List.drop_eq_getElem_cons hil]
        rfl⟩
      clear hne hll
      have hlj := hide hlj
      go_wp2
      go_quiet ((go_at_call 82; exact Calls.quiet_eq (cL.out _)))
      go_wp2_with (go_at_call 176; (with_reducible refine (cG.out _).mono ?_); rintro r w3 ⟨rfl, v3, h3⟩; rw [hstep.out.1, hstep.out.2] at h3; have h3 := hide h3)
      go_roundg (j - 1)
      case measure => rw [← hjk.out]; omega
      case rel => exact ⟨i + 1, j - 1, v3, ⟨rfl⟩, ⟨by have := hij.out; omega⟩, ⟨.inr (by omega)⟩, h3.out⟩
    · have f2 : decide ((most : Int) < j) = false := decide_eq_false (by omega)
      have f3 : decide (most < j) = false := decide_eq_false hlt
      have hr : Hide (res = (s1.off i, hKeys (s1.srt.take i))) := ⟨by
        rw [hres.out, show s1.srt.length - most = i by have := hij.out; rcases hjm.out with h | h <;> omega]⟩
      have hlt := hide hlt
      have hlj := hide hlj
      go_wp2
      go_quiet ((go_at_call 82; exact Calls.quiet_eq (cL.out _)))
      go_wp2
      go_ret
      refine ⟨_, rfl, ?_⟩
      rw [hr.out]
      have H5 := hh0.out.drewN (n := nq)
      unfold LfuRes at H5
      exact (H5.p1.drop.p1.drop)
end Go.Proofs.YtbbdimlpofjlfaaGreatDoor
