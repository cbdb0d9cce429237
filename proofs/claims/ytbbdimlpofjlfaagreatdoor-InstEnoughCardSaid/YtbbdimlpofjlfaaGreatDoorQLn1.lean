/- A learner in memory: what is told of it. -/
import Derived.Test.YtbbdimlpofjlfaaGreatDoorQPol2
import Derived.Test.YtbbdimlpofjlfaaGreatDoorQDraw1
import Derived.Test.YtbbdimlpofjlfaaGreatDoorQTwLearn
namespace Go.Proofs.YtbbdimlpofjlfaaGreatDoor
open Go Go.RowKit

/-- Where its parts lie. -/
structure LnAd where
  t : Nat
  a : Nat
  b : Nat
  ga : Nat
  gb : Nat
  mp : Nat
  ka : Int
  kb : Int
  ma : Nat
  mb : Nat
def encI (t : Int) : Value := .int .i64 t
def lnCells (p : LnAd) (s : Ln) : Array Value := #[.int .i64 s.kind, .int .i64 (s.most : Nat), .pointer (some ⟨p.t, 0, none⟩), .int .i64 (s.lane : Nat), .pointer (some ⟨p.a, 0, none⟩), .pointer (some ⟨p.b, 0, none⟩), .pointer (some ⟨p.ga, 0, none⟩), .pointer (some ⟨p.gb, 0, none⟩), .map (some p.mp), .int .i64 s.clock, .int .u64 (s.w : Nat), .int .u64 (s.rate : Nat), .int .i64 s.asked, .int .i64 s.hits, .int .i64 s.last, .int .i64 s.still, .bool s.first, .bool s.down]
/-- A learner's parts, but for the tape. -/
def LnRaw (b : Nat) (p : LnAd) (s : Ln) (F : List SProp) : List SProp :=
  pts b (.cells (lnCells p s) 154) :: IsPol p.a p.ka p.ma s.A :: IsPol p.b p.kb p.mb s.B :: IsList p.ga s.GA :: IsList p.gb s.GB :: OwnMap p.mp (s.went.enc encI) :: F
/-- A learner at block b, whose tape lies at tb. -/
def IsLn (b tb : Nat) (s : Ln) : SProp := fun h => ∃ p, p.t = tb ∧ All [pts b (.cells (lnCells p s) 154), IsPol p.a p.ka p.ma s.A, IsPol p.b p.kb p.mb s.B, IsList p.ga s.GA, IsList p.gb s.GB, OwnMap p.mp (s.went.enc encI)] h
theorem Holds.isLn {g w : World} {b tb : Nat} {s : Ln} {F : List SProp} (h : Holds g w (IsLn b tb s :: F)) : ∃ p, p.t = tb ∧ Holds g w (LnRaw b p s F) := by
  obtain ⟨p, h⟩ := h.unex
  obtain ⟨ht, h⟩ := h.unfact
  exact ⟨p, ht, h.unall⟩
theorem Holds.toLn {g w : World} {b : Nat} {p : LnAd} {s : Ln} {F : List SProp} (h : Holds g w (LnRaw b p s F)) : Holds g w (IsLn b p.t s :: F) := by
  have h' : Holds g w (All [pts b (.cells (lnCells p s) 154), IsPol p.a p.ka p.ma s.A, IsPol p.b p.kb p.mb s.B, IsList p.ga s.GA, IsList p.gb s.GB, OwnMap p.mp (s.went.enc encI)] :: F) := Holds.all h
  exact h'.head fun x hx => ⟨p, rfl, hx⟩
theorem lnc0 {g w : World} {b : Nat} {p : LnAd} {s : Ln} {F : List SProp} (h : Holds g w (LnRaw b p s F)) :
    w.cell? ⟨b, 0, none⟩ = some (.int .i64 s.kind) ∧ w.cell? ⟨b, 1, none⟩ = some (.int .i64 (s.most : Nat)) ∧ w.cell? ⟨b, 2, none⟩ = some (.pointer (some ⟨p.t, 0, none⟩)) ∧ w.cell? ⟨b, 3, none⟩ = some (.int .i64 (s.lane : Nat)) ∧ w.cell? ⟨b, 4, none⟩ = some (.pointer (some ⟨p.a, 0, none⟩)) ∧ w.cell? ⟨b, 5, none⟩ = some (.pointer (some ⟨p.b, 0, none⟩)) ∧ w.cell? ⟨b, 6, none⟩ = some (.pointer (some ⟨p.ga, 0, none⟩)) ∧ w.cell? ⟨b, 7, none⟩ = some (.pointer (some ⟨p.gb, 0, none⟩)) ∧ w.cell? ⟨b, 8, none⟩ = some (.map (some p.mp)) :=
  ⟨Holds.cell h rfl, Holds.cell h rfl, Holds.cell h rfl, Holds.cell h rfl, Holds.cell h rfl, Holds.cell h rfl, Holds.cell h rfl, Holds.cell h rfl, Holds.cell h rfl⟩
theorem lnc9 {g w : World} {b : Nat} {p : LnAd} {s : Ln} {F : List SProp} (h : Holds g w (LnRaw b p s F)) :
    w.cell? ⟨b, 9, none⟩ = some (.int .i64 s.clock) ∧ w.cell? ⟨b, 10, none⟩ = some (.int .u64 (s.w : Nat)) ∧ w.cell? ⟨b, 11, none⟩ = some (.int .u64 (s.rate : Nat)) ∧ w.cell? ⟨b, 12, none⟩ = some (.int .i64 s.asked) ∧ w.cell? ⟨b, 13, none⟩ = some (.int .i64 s.hits) ∧ w.cell? ⟨b, 14, none⟩ = some (.int .i64 s.last) ∧ w.cell? ⟨b, 15, none⟩ = some (.int .i64 s.still) ∧ w.cell? ⟨b, 16, none⟩ = some (.bool s.first) ∧ w.cell? ⟨b, 17, none⟩ = some (.bool s.down) :=
  ⟨Holds.cell h rfl, Holds.cell h rfl, Holds.cell h rfl, Holds.cell h rfl, Holds.cell h rfl, Holds.cell h rfl, Holds.cell h rfl, Holds.cell h rfl, Holds.cell h rfl⟩
theorem lnd0 {g w : World} {b : Nat} {p : LnAd} {s : Ln} {F : List SProp} (h : Holds g w (pts b (.cells (lnCells p s) 154) :: F)) :
    w.cell? ⟨b, 0, none⟩ = some (.int .i64 s.kind) ∧ w.cell? ⟨b, 1, none⟩ = some (.int .i64 (s.most : Nat)) ∧ w.cell? ⟨b, 2, none⟩ = some (.pointer (some ⟨p.t, 0, none⟩)) ∧ w.cell? ⟨b, 3, none⟩ = some (.int .i64 (s.lane : Nat)) ∧ w.cell? ⟨b, 4, none⟩ = some (.pointer (some ⟨p.a, 0, none⟩)) ∧ w.cell? ⟨b, 5, none⟩ = some (.pointer (some ⟨p.b, 0, none⟩)) ∧ w.cell? ⟨b, 6, none⟩ = some (.pointer (some ⟨p.ga, 0, none⟩)) ∧ w.cell? ⟨b, 7, none⟩ = some (.pointer (some ⟨p.gb, 0, none⟩)) ∧ w.cell? ⟨b, 8, none⟩ = some (.map (some p.mp)) :=
  ⟨Holds.cell h rfl, Holds.cell h rfl, Holds.cell h rfl, Holds.cell h rfl, Holds.cell h rfl, Holds.cell h rfl, Holds.cell h rfl, Holds.cell h rfl, Holds.cell h rfl⟩
theorem lnd9 {g w : World} {b : Nat} {p : LnAd} {s : Ln} {F : List SProp} (h : Holds g w (pts b (.cells (lnCells p s) 154) :: F)) :
    w.cell? ⟨b, 9, none⟩ = some (.int .i64 s.clock) ∧ w.cell? ⟨b, 10, none⟩ = some (.int .u64 (s.w : Nat)) ∧ w.cell? ⟨b, 11, none⟩ = some (.int .u64 (s.rate : Nat)) ∧ w.cell? ⟨b, 12, none⟩ = some (.int .i64 s.asked) ∧ w.cell? ⟨b, 13, none⟩ = some (.int .i64 s.hits) ∧ w.cell? ⟨b, 14, none⟩ = some (.int .i64 s.last) ∧ w.cell? ⟨b, 15, none⟩ = some (.int .i64 s.still) ∧ w.cell? ⟨b, 16, none⟩ = some (.bool s.first) ∧ w.cell? ⟨b, 17, none⟩ = some (.bool s.down) :=
  ⟨Holds.cell h rfl, Holds.cell h rfl, Holds.cell h rfl, Holds.cell h rfl, Holds.cell h rfl, Holds.cell h rfl, Holds.cell h rfl, Holds.cell h rfl, Holds.cell h rfl⟩
set_option maxRecDepth 100000
set_option maxHeartbeats 1000000
theorem Ln_Has {g w : World} {b tb : Nat} {s : Ln} {F : List SProp} (h : Holds g w (IsLn b tb s :: F)) (k : ByteArray) (d : Bool) (hd : s.has k = d) :
    Calls Tryz.prog 296 #[.pointer (some ⟨b, 0, none⟩), .string k] w fun r w' => r = .returned (.bool d) ∧ Keep w w' := by
  replace h := h.isLn
  obtain ⟨p, rfl, h⟩ := h
  obtain ⟨_, _, _, _, c4, _⟩ := lnc0 h
  have cM := hide (Pol_Has (Holds.p1 h) k d hd)
  clear h hd
  go_enter Tryz.func296, Tryz.ntmps296
  go_wp2_with (go_at_call 312; (with_reducible refine cM.out.mono ?_); rintro r w1 ⟨rfl, h1⟩; have h1 := hide h1)
  go_ret
  exact ⟨rfl, h1.out⟩
theorem Ln_Len {g w : World} {b tb : Nat} {s : Ln} {F : List SProp} (h : Holds g w (IsLn b tb s :: F)) (n : Nat) (hn : s.len = n) (hl : s.len < 1000000) :
    Calls Tryz.prog 299 #[.pointer (some ⟨b, 0, none⟩)] w fun r w' => r = .returned (.int .i64 n) ∧ ∃ m, w' = w.drewN m := by
  replace h := h.isLn
  obtain ⟨p, rfl, h⟩ := h
  obtain ⟨_, _, _, _, c4, _⟩ := lnc0 h
  have cM := hide (Pol_Len (Holds.p1 h) n hn hl)
  clear h hn hl
  go_enter Tryz.func299, Tryz.ntmps299
  go_wp2_with (go_at_call 314; (with_reducible refine cM.out.mono ?_); rintro r w1 ⟨rfl, m1, rfl⟩)
  go_ret
  exact ⟨rfl, m1, rfl⟩
theorem Ln_Weight {g w : World} {b tb : Nat} {s : Ln} {F : List SProp} (h : Holds g w (IsLn b tb s :: F)) (n : Nat) (hn : s.w = n) :
    Calls Tryz.prog 305 #[.pointer (some ⟨b, 0, none⟩)] w fun r w' => r = .returned (.int .u64 n) ∧ w = w' := by
  replace h := h.isLn
  obtain ⟨p, rfl, h⟩ := h
  obtain ⟨_, c, _⟩ := lnc9 h
  rw [hn] at c
  clear h hn
  go_enter Tryz.func305, Tryz.ntmps305
  go_wp2
  go_ret
  exact ⟨rfl, rfl⟩
theorem Ln_Kind {g w : World} {b tb : Nat} {s : Ln} {F : List SProp} (h : Holds g w (IsLn b tb s :: F)) (n : Int) (hn : s.kind = n) :
    Calls Tryz.prog 298 #[.pointer (some ⟨b, 0, none⟩)] w fun r w' => r = .returned (.int .i64 n) ∧ w = w' := by
  replace h := h.isLn
  obtain ⟨p, rfl, h⟩ := h
  obtain ⟨c, _⟩ := lnc0 h
  rw [hn] at c
  clear h hn
  go_enter Tryz.func298, Tryz.ntmps298
  go_wp2
  go_ret
  exact ⟨rfl, rfl⟩
theorem Ln_Most {g w : World} {b tb : Nat} {s : Ln} {F : List SProp} (h : Holds g w (IsLn b tb s :: F)) (n : Nat) (hn : s.most = n) :
    Calls Tryz.prog 300 #[.pointer (some ⟨b, 0, none⟩)] w fun r w' => r = .returned (.int .i64 n) ∧ w = w' := by
  replace h := h.isLn
  obtain ⟨p, rfl, h⟩ := h
  obtain ⟨_, c, _⟩ := lnc0 h
  rw [hn] at c
  clear h hn
  go_enter Tryz.func300, Tryz.ntmps300
  go_wp2
  go_ret
  exact ⟨rfl, rfl⟩
theorem Ln_Keys {g w : World} {b tb : Nat} {s : Ln} {F : List SProp} (h : Holds g w (IsLn b tb s :: F)) (hp : ∀ q, s.A ≠ .lfu q) (hl : s.len ≤ 1000000) :
    Calls Tryz.prog 297 #[.pointer (some ⟨b, 0, none⟩)] w fun r w' => ∃ v, r = .returned v ∧ Holds g w' (OwnStrs v s.A.keys :: IsLn b tb s :: F) := by
  replace h := h.isLn
  obtain ⟨p, rfl, h⟩ := h
  obtain ⟨_, _, _, _, c4, _⟩ := lnc0 h
  have cM := hide (Pol_Keys (Holds.p1 h) hp hl)
  clear h hp hl
  go_enter Tryz.func297, Tryz.ntmps297
  go_wp2_with (go_at_call 313; (with_reducible refine cM.out.mono ?_); rintro r w1 ⟨v, rfl, h1⟩; have h1 := hide h1)
  go_ret
  refine ⟨_, rfl, ?_⟩
  have H : Holds g w1 (LnRaw b p s (OwnStrs v s.A.keys :: F)) := h1.out.p6.p6.p6.p6.p5.p6
  exact (Holds.toLn H).p1
theorem Ln_Victim {g w : World} {b tb : Nat} {s : Ln} {F : List SProp} (h : Holds g w (IsLn b tb s :: F)) (x : ByteArray) (d : Bool) (hx : s.victim = (x, d)) :
    Calls Tryz.prog 304 #[.pointer (some ⟨b, 0, none⟩)] w fun r w' => r = .returned (.tuple #[.string x, .bool d]) ∧ Keep w w' := by
  replace h := h.isLn
  obtain ⟨p, rfl, h⟩ := h
  obtain ⟨_, _, _, _, c4, c5, _⟩ := lnc0 h
  obtain ⟨_, c10, _⟩ := lnc9 h
  obtain ⟨n, hn⟩ : ∃ n, s.w = n := ⟨_, rfl⟩
  unfold Ln.victim fOne at hx
  rw [hn] at hx c10
  by_cases hw : 2305843009213693952 ≤ n
  · rw [if_pos (by omega)] at hx
    have hw' : (2305843009213693952 : Int) ≤ n := by omega
    have cM := hide (Pol_Victim (Holds.p1 h) x d hx)
    clear h hx hn
    go_enter Tryz.func304, Tryz.ntmps304
    go_wp2_with (go_at_call 323; (with_reducible refine cM.out.mono ?_); rintro r w1 ⟨rfl, h1⟩; have h1 := hide h1)
    go_ret2
    exact ⟨rfl, h1.out⟩
  · rw [if_neg (by omega)] at hx
    have hw' : ¬ (2305843009213693952 : Int) ≤ n := by omega
    have cM := hide (Pol_Victim (Holds.p2 h) x d hx)
    clear h hx hn
    go_enter Tryz.func304, Tryz.ntmps304
    go_wp2_with (go_at_call 323; (with_reducible refine cM.out.mono ?_); rintro r w1 ⟨rfl, h1⟩; have h1 := hide h1)
    go_ret2
    exact ⟨rfl, h1.out⟩
theorem Ln_part (m n : Nat) (hm : m < 9223372036854775808) (hn : 0 < n ∧ n < 9223372036854775808) (x : Nat) (hx : fpart m n = x) (w : World) :
    Calls Tryz.prog 66 #[.int .i64 (m : Nat), .int .i64 (n : Nat)] w fun r w' => r = .returned (.int .u64 (x : Nat)) ∧ Keep w w' := by
  have hc := hide (fun w => Whole_val m n x (by rw [← hx]; unfold fpart fwhole; rw [if_neg (by omega)]; rfl) hn.1 hm hn.2 w)
  clear hx
  go_enter Tryz.func66, Tryz.ntmps66
  go_wp2_with (go_at_call 159; (with_reducible refine (hc.out _).mono ?_); rintro r w1 ⟨rfl, h1⟩; have h1 := hide h1)
  go_ret
  exact ⟨rfl, h1.out⟩
theorem Ln_Ghosts {g w : World} {b tb : Nat} {s : Ln} {F : List SProp} (h : Holds g w (IsLn b tb s :: F)) (hl : s.GA.length + s.GB.length ≤ 2000000) :
    Calls Tryz.prog 295 #[.pointer (some ⟨b, 0, none⟩)] w fun r w' => ∃ v, r = .returned v ∧ Holds g w' (OwnStrs v s.ghosts :: IsLn b tb s :: F) := by
  replace h := h.isLn
  obtain ⟨p, rfl, h⟩ := h
  obtain ⟨_, _, _, _, _, _, c6, c7, _⟩ := lnc0 h
  have st := hide (fun w' (k : Keep w w') => And.intro (k.cell c6) (k.cell c7))
  have kq := hide (Keep.refl w).drew
  have h := hide h
  replace hl := hide hl
  clear c6 c7
  go_enter Tryz.func295, Tryz.ntmps295
  go_wp2
  go_region_held3 (fun w' => w'.cell? ⟨b, 6, none⟩ = some (.pointer (some ⟨p.ga, 0, none⟩)) ∧ w'.cell? ⟨b, 7, none⟩ = some (.pointer (some ⟨p.gb, 0, none⟩))) (first | exact st.out _ kq.out | exact S4.out | exact S3.out | exact S2.out)
    ((first
      | (go_at_call 167; (with_reducible refine (List_Keys (Holds.p3 (Holds.drew h.out))).mono ?_); rintro r w1 ⟨v1, rfl, h1⟩; have h1 := hide h1; have S2 := hide (And.intro (Holds.cell (off := 6) (Holds.p2 h1.out) rfl) (Holds.cell (off := 7) (Holds.p2 h1.out) rfl)))
      | (go_at_call 167; (with_reducible refine (List_Keys (Holds.p5 h1.out)).mono ?_); rintro r w2 ⟨v2, rfl, h2⟩; have h2 := hide (Holds.p2 h2); have S3 := hide (And.intro (Holds.cell (off := 6) (Holds.p4 h2.out) rfl) (Holds.cell (off := 7) (Holds.p4 h2.out) rfl)))
      | (refine step_append_strs rfl _ _ rfl h2.out hl.out rfl rfl ?_; intro v3 w3 h3; have h3 := hide h3; have S4 := hide (And.intro (Holds.cell (off := 6) (Holds.p3 h3.out) rfl) (Holds.cell (off := 7) (Holds.p3 h3.out) rfl)))))
  all_goals
    go_wp2
    go_ret
    refine ⟨_, rfl, ?_⟩
    have H : Holds g w3 (LnRaw b p s (OwnStrs v3 s.ghosts :: F)) := h3.out.p6.p2.p3.p6.p6.p6
    exact (Holds.toLn H).p1
end Go.Proofs.YtbbdimlpofjlfaaGreatDoor
/- A learner in memory: both experts; forget. -/
namespace Go.Proofs.YtbbdimlpofjlfaaGreatDoor
open Go Go.RowKit

set_option maxRecDepth 100000
set_option maxHeartbeats 1000000
theorem Ln_both_gone {g w : World} {b : Nat} {p : LnAd} {s s1 s2 : Ln} {F : List SProp} {kb : Nat} (h : Holds g w (LnRaw b p s F))
    (c1 : Calls Tryz.prog 326 #[.pointer (some ⟨p.a, 0, none⟩), .pointer (some ⟨kb, 0, none⟩)] w fun r w' => r = .returned (.tuple #[]) ∧ Holds g w' (LnRaw b p s1 F))
    (c2 : ∀ w1, Holds g w1 (LnRaw b p s1 F) → Calls Tryz.prog 326 #[.pointer (some ⟨p.b, 0, none⟩), .pointer (some ⟨kb, 0, none⟩)] w1 fun r w' => r = .returned (.tuple #[]) ∧ Holds g w' (LnRaw b p s2 F)) :
    Calls Tryz.prog 308 #[.pointer (some ⟨b, 0, none⟩), .func (.func 326) #[] #[.pointer (some ⟨kb, 0, none⟩)]] w fun r w' => r = .returned (.tuple #[]) ∧ Holds g w' (LnRaw b p s2 F) := by
  obtain ⟨_, _, _, _, c4, c5, _⟩ := lnc0 h
  replace c1 := hide c1
  replace c2 := hide c2
  have i0 : ∀ w : World, (Instr.index 150 (.agg #[.pointer (some ⟨p.a, 0, none⟩), .pointer (some ⟨p.b, 0, none⟩)]) (.int .i64 0)).run Tryz.prog w = .ok (.pointer (some ⟨p.a, 0, none⟩)) w := fun _ => by kernel_rfl
  have i1 : ∀ w : World, (Instr.index 150 (.agg #[.pointer (some ⟨p.a, 0, none⟩), .pointer (some ⟨p.b, 0, none⟩)]) (.int .i64 1)).run Tryz.prog w = .ok (.pointer (some ⟨p.b, 0, none⟩)) w := fun _ => by kernel_rfl
  clear h
  go_enter Tryz.func308, Tryz.ntmps308
  go_wp2
  refine wp_loop_rounds 3 ?_
  rw [rounds_succ]
  go_wp2_with (go_at_call 326; (with_reducible refine c1.out.mono ?_); rintro r w1 ⟨rfl, h1⟩; have h1 := hide h1)
  rw [rounds_succ]
  go_wp2_with (go_at_call 326; (with_reducible refine (c2.out _ h1.out).mono ?_); rintro r w2 ⟨rfl, h2⟩; have h2 := hide h2)
  rw [rounds_succ]
  go_wp2
  go_end0
  exact ⟨rfl, h2.out⟩
theorem Ln_both_adopt {g w : World} {b : Nat} {p : LnAd} {s s1 s2 : Ln} {F : List SProp} {kb : Nat} (h : Holds g w (LnRaw b p s F))
    (c1 : Calls Tryz.prog 309 #[.pointer (some ⟨p.a, 0, none⟩), .pointer (some ⟨kb, 0, none⟩)] w fun r w' => r = .returned (.tuple #[]) ∧ Holds g w' (LnRaw b p s1 F))
    (c2 : ∀ w1, Holds g w1 (LnRaw b p s1 F) → Calls Tryz.prog 309 #[.pointer (some ⟨p.b, 0, none⟩), .pointer (some ⟨kb, 0, none⟩)] w1 fun r w' => r = .returned (.tuple #[]) ∧ Holds g w' (LnRaw b p s2 F)) :
    Calls Tryz.prog 308 #[.pointer (some ⟨b, 0, none⟩), .func (.func 309) #[] #[.pointer (some ⟨kb, 0, none⟩)]] w fun r w' => r = .returned (.tuple #[]) ∧ Holds g w' (LnRaw b p s2 F) := by
  obtain ⟨_, _, _, _, c4, c5, _⟩ := lnc0 h
  replace c1 := hide c1
  replace c2 := hide c2
  have i0 : ∀ w : World, (Instr.index 150 (.agg #[.pointer (some ⟨p.a, 0, none⟩), .pointer (some ⟨p.b, 0, none⟩)]) (.int .i64 0)).run Tryz.prog w = .ok (.pointer (some ⟨p.a, 0, none⟩)) w := fun _ => by kernel_rfl
  have i1 : ∀ w : World, (Instr.index 150 (.agg #[.pointer (some ⟨p.a, 0, none⟩), .pointer (some ⟨p.b, 0, none⟩)]) (.int .i64 1)).run Tryz.prog w = .ok (.pointer (some ⟨p.b, 0, none⟩)) w := fun _ => by kernel_rfl
  clear h
  go_enter Tryz.func308, Tryz.ntmps308
  go_wp2
  refine wp_loop_rounds 3 ?_
  rw [rounds_succ]
  go_wp2_with (go_at_call 309; (with_reducible refine c1.out.mono ?_); rintro r w1 ⟨rfl, h1⟩; have h1 := hide h1)
  rw [rounds_succ]
  go_wp2_with (go_at_call 309; (with_reducible refine (c2.out _ h1.out).mono ?_); rintro r w2 ⟨rfl, h2⟩; have h2 := hide h2)
  rw [rounds_succ]
  go_wp2
  go_end0
  exact ⟨rfl, h2.out⟩
theorem Ln_both_req1 {g w : World} {b : Nat} {p : LnAd} {s s1 s2 : Ln} {F : List SProp} {kb : Nat} (h : Holds g w (LnRaw b p s F))
    (c1 : Calls Tryz.prog 315 #[.pointer (some ⟨p.a, 0, none⟩), .pointer (some ⟨kb, 0, none⟩)] w fun r w' => r = .returned (.tuple #[]) ∧ Holds g w' (LnRaw b p s1 F))
    (c2 : ∀ w1, Holds g w1 (LnRaw b p s1 F) → Calls Tryz.prog 315 #[.pointer (some ⟨p.b, 0, none⟩), .pointer (some ⟨kb, 0, none⟩)] w1 fun r w' => r = .returned (.tuple #[]) ∧ Holds g w' (LnRaw b p s2 F)) :
    Calls Tryz.prog 308 #[.pointer (some ⟨b, 0, none⟩), .func (.func 315) #[] #[.pointer (some ⟨kb, 0, none⟩)]] w fun r w' => r = .returned (.tuple #[]) ∧ Holds g w' (LnRaw b p s2 F) := by
  obtain ⟨_, _, _, _, c4, c5, _⟩ := lnc0 h
  replace c1 := hide c1
  replace c2 := hide c2
  have i0 : ∀ w : World, (Instr.index 150 (.agg #[.pointer (some ⟨p.a, 0, none⟩), .pointer (some ⟨p.b, 0, none⟩)]) (.int .i64 0)).run Tryz.prog w = .ok (.pointer (some ⟨p.a, 0, none⟩)) w := fun _ => by kernel_rfl
  have i1 : ∀ w : World, (Instr.index 150 (.agg #[.pointer (some ⟨p.a, 0, none⟩), .pointer (some ⟨p.b, 0, none⟩)]) (.int .i64 1)).run Tryz.prog w = .ok (.pointer (some ⟨p.b, 0, none⟩)) w := fun _ => by kernel_rfl
  clear h
  go_enter Tryz.func308, Tryz.ntmps308
  go_wp2
  refine wp_loop_rounds 3 ?_
  rw [rounds_succ]
  go_wp2_with (go_at_call 315; (with_reducible refine c1.out.mono ?_); rintro r w1 ⟨rfl, h1⟩; have h1 := hide h1)
  rw [rounds_succ]
  go_wp2_with (go_at_call 315; (with_reducible refine (c2.out _ h1.out).mono ?_); rintro r w2 ⟨rfl, h2⟩; have h2 := hide h2)
  rw [rounds_succ]
  go_wp2
  go_end0
  exact ⟨rfl, h2.out⟩
theorem Ln_both_req2 {g w : World} {b : Nat} {p : LnAd} {s s1 s2 : Ln} {F : List SProp} {kb : Nat} (h : Holds g w (LnRaw b p s F))
    (c1 : Calls Tryz.prog 319 #[.pointer (some ⟨p.a, 0, none⟩), .pointer (some ⟨kb, 0, none⟩)] w fun r w' => r = .returned (.tuple #[]) ∧ Holds g w' (LnRaw b p s1 F))
    (c2 : ∀ w1, Holds g w1 (LnRaw b p s1 F) → Calls Tryz.prog 319 #[.pointer (some ⟨p.b, 0, none⟩), .pointer (some ⟨kb, 0, none⟩)] w1 fun r w' => r = .returned (.tuple #[]) ∧ Holds g w' (LnRaw b p s2 F)) :
    Calls Tryz.prog 308 #[.pointer (some ⟨b, 0, none⟩), .func (.func 319) #[] #[.pointer (some ⟨kb, 0, none⟩)]] w fun r w' => r = .returned (.tuple #[]) ∧ Holds g w' (LnRaw b p s2 F) := by
  obtain ⟨_, _, _, _, c4, c5, _⟩ := lnc0 h
  replace c1 := hide c1
  replace c2 := hide c2
  have i0 : ∀ w : World, (Instr.index 150 (.agg #[.pointer (some ⟨p.a, 0, none⟩), .pointer (some ⟨p.b, 0, none⟩)]) (.int .i64 0)).run Tryz.prog w = .ok (.pointer (some ⟨p.a, 0, none⟩)) w := fun _ => by kernel_rfl
  have i1 : ∀ w : World, (Instr.index 150 (.agg #[.pointer (some ⟨p.a, 0, none⟩), .pointer (some ⟨p.b, 0, none⟩)]) (.int .i64 1)).run Tryz.prog w = .ok (.pointer (some ⟨p.b, 0, none⟩)) w := fun _ => by kernel_rfl
  clear h
  go_enter Tryz.func308, Tryz.ntmps308
  go_wp2
  refine wp_loop_rounds 3 ?_
  rw [rounds_succ]
  go_wp2_with (go_at_call 319; (with_reducible refine c1.out.mono ?_); rintro r w1 ⟨rfl, h1⟩; have h1 := hide h1)
  rw [rounds_succ]
  go_wp2_with (go_at_call 319; (with_reducible refine (c2.out _ h1.out).mono ?_); rintro r w2 ⟨rfl, h2⟩; have h2 := hide h2)
  rw [rounds_succ]
  go_wp2
  go_end0
  exact ⟨rfl, h2.out⟩
theorem Ln_both_resize {g w : World} {b : Nat} {p : LnAd} {s s1 s2 : Ln} {F : List SProp} {kb : Nat} (h : Holds g w (LnRaw b p s F))
    (c1 : Calls Tryz.prog 320 #[.pointer (some ⟨p.a, 0, none⟩), .pointer (some ⟨kb, 0, none⟩)] w fun r w' => r = .returned (.tuple #[]) ∧ Holds g w' (LnRaw b p s1 F))
    (c2 : ∀ w1, Holds g w1 (LnRaw b p s1 F) → Calls Tryz.prog 320 #[.pointer (some ⟨p.b, 0, none⟩), .pointer (some ⟨kb, 0, none⟩)] w1 fun r w' => r = .returned (.tuple #[]) ∧ Holds g w' (LnRaw b p s2 F)) :
    Calls Tryz.prog 308 #[.pointer (some ⟨b, 0, none⟩), .func (.func 320) #[] #[.pointer (some ⟨kb, 0, none⟩)]] w fun r w' => r = .returned (.tuple #[]) ∧ Holds g w' (LnRaw b p s2 F) := by
  obtain ⟨_, _, _, _, c4, c5, _⟩ := lnc0 h
  replace c1 := hide c1
  replace c2 := hide c2
  have i0 : ∀ w : World, (Instr.index 150 (.agg #[.pointer (some ⟨p.a, 0, none⟩), .pointer (some ⟨p.b, 0, none⟩)]) (.int .i64 0)).run Tryz.prog w = .ok (.pointer (some ⟨p.a, 0, none⟩)) w := fun _ => by kernel_rfl
  have i1 : ∀ w : World, (Instr.index 150 (.agg #[.pointer (some ⟨p.a, 0, none⟩), .pointer (some ⟨p.b, 0, none⟩)]) (.int .i64 1)).run Tryz.prog w = .ok (.pointer (some ⟨p.b, 0, none⟩)) w := fun _ => by kernel_rfl
  clear h
  go_enter Tryz.func308, Tryz.ntmps308
  go_wp2
  refine wp_loop_rounds 3 ?_
  rw [rounds_succ]
  go_wp2_with (go_at_call 320; (with_reducible refine c1.out.mono ?_); rintro r w1 ⟨rfl, h1⟩; have h1 := hide h1)
  rw [rounds_succ]
  go_wp2_with (go_at_call 320; (with_reducible refine (c2.out _ h1.out).mono ?_); rintro r w2 ⟨rfl, h2⟩; have h2 := hide h2)
  rw [rounds_succ]
  go_wp2
  go_end0
  exact ⟨rfl, h2.out⟩
theorem gone_1 {g w : World} {a kb m : Nat} {kind : Int} {P : Pol} {F : List SProp} (h : Holds g w (IsPol a kind m P :: F)) (k : ByteArray) (hk : w.cell? ⟨kb, 0, none⟩ = some (.string k)) :
    Calls Tryz.prog 326 #[.pointer (some ⟨a, 0, none⟩), .pointer (some ⟨kb, 0, none⟩)] w fun r w' => r = .returned (.tuple #[]) ∧ Holds g w' (IsPol a kind m (P.remove k) :: F) := by
  have cM := hide (Pol_Remove h k _ rfl)
  clear h
  go_enter Tryz.func326, Tryz.ntmps326
  go_wp2_with (go_at_call 327; (with_reducible refine cM.out.mono ?_); rintro r w1 ⟨rfl, h1⟩; have h1 := hide h1)
  go_end0
  exact ⟨rfl, h1.out⟩
theorem adopt_1 {g w : World} {a kb m : Nat} {kind : Int} {P : Pol} {F : List SProp} (h : Holds g w (IsPol a kind m P :: F)) (k : ByteArray) (hk : w.cell? ⟨kb, 0, none⟩ = some (.string k)) (i m' : Nat) (hf : P.Fit i m') (hi : i < 100000) :
    Calls Tryz.prog 309 #[.pointer (some ⟨a, 0, none⟩), .pointer (some ⟨kb, 0, none⟩)] w fun r w' => r = .returned (.tuple #[]) ∧ Holds g w' (IsPol a kind m (P.adopt k).1 :: F) := by
  have cM := hide (Pol_Adopt h k i m' hf hi)
  clear h hf hi
  go_enter Tryz.func309, Tryz.ntmps309
  go_wp2_with (go_at_call 310; (with_reducible refine cM.out.mono ?_); rintro r w1 ⟨rfl, h1⟩; have h1 := hide h1)
  go_end0
  exact ⟨rfl, h1.out⟩
theorem request_2 {g w : World} {a kb m : Nat} {kind : Int} {P : Pol} {F : List SProp} (h : Holds g w (IsPol a kind m P :: F)) (k : ByteArray) (hk : w.cell? ⟨kb, 0, none⟩ = some (.string k)) (i m' : Nat) (hf : P.Fit i m') (hi : i < 100000) :
    Calls Tryz.prog 319 #[.pointer (some ⟨a, 0, none⟩), .pointer (some ⟨kb, 0, none⟩)] w fun r w' => r = .returned (.tuple #[]) ∧ Holds g w' (IsPol a kind m (P.adopt k).1 :: F) := by
  have cM := hide (Pol_Adopt h k i m' hf hi)
  clear h hf hi
  go_enter Tryz.func319, Tryz.ntmps319
  go_wp2_with (go_at_call 310; (with_reducible refine cM.out.mono ?_); rintro r w1 ⟨rfl, h1⟩; have h1 := hide h1)
  go_end0
  exact ⟨rfl, h1.out⟩
theorem request_1 {g w : World} {a kb m : Nat} {kind : Int} {P : Pol} {F : List SProp} (h : Holds g w (IsPol a kind m P :: F)) (k : ByteArray) (hk : w.cell? ⟨kb, 0, none⟩ = some (.string k)) (i m' : Nat) (hf : P.Fit i m') (hi : i < 100000) (hm : m' ≤ 1000000000) (hh : ∀ q, P = .sr q → q.has k = true) :
    Calls Tryz.prog 315 #[.pointer (some ⟨a, 0, none⟩), .pointer (some ⟨kb, 0, none⟩)] w fun r w' => r = .returned (.tuple #[]) ∧ Holds g w' (IsPol a kind m (P.req k).1 :: F) := by
  have cM := hide (Pol_RequestHit h k i m' hf hi hm hh)
  clear h hf hi hm hh
  go_enter Tryz.func315, Tryz.ntmps315
  go_wp2_with (go_at_call 316; (with_reducible refine cM.out.mono ?_); rintro r w1 ⟨rfl, h1⟩; have h1 := hide h1)
  go_end0
  exact ⟨rfl, h1.out⟩
theorem resize_1 {g w : World} {a kb m : Nat} {kind : Int} {P : Pol} {F : List SProp} (h : Holds g w (IsPol a kind m P :: F)) (most : Nat) (hk : w.cell? ⟨kb, 0, none⟩ = some (.int .i64 (most : Nat))) (hm : most ≤ 16777216) (i m' : Nat) (hf : P.Fit i m') (hi : i < 100000) (hm' : m' ≤ 1000000000) :
    Calls Tryz.prog 320 #[.pointer (some ⟨a, 0, none⟩), .pointer (some ⟨kb, 0, none⟩)] w fun r w' => r = .returned (.tuple #[]) ∧ Holds g w' (IsPol a kind most (P.resize most).1 :: F) := by
  have cM := hide (Pol_Resize h most hm i m' hf hi hm')
  clear h hf hi hm hm'
  go_enter Tryz.func320, Tryz.ntmps320
  go_wp2_with (go_at_call 321; (with_reducible refine cM.out.mono ?_); rintro r w1 ⟨v, rfl, h1⟩; have h1 := hide h1)
  go_end0
  exact ⟨rfl, h1.out.drop⟩
/-- A resident goes, from both. -/
theorem Ln_gone {g w : World} {b tb : Nat} {s : Ln} {F : List SProp} (h : Holds g w (IsLn b tb s :: F)) (k : ByteArray) :
    Calls Tryz.prog 311 #[.pointer (some ⟨b, 0, none⟩), .string k] w fun r w' => r = .returned (.tuple #[]) ∧ Holds g w' (IsLn b tb (s.gone k) :: F) := by
  replace h := h.isLn
  obtain ⟨p, rfl, h⟩ := h
  obtain ⟨kb, hkb⟩ : ∃ kb, w.heap.size = kb := ⟨_, rfl⟩
  have HA := h.alloc (o := .cells #[.string k] 9)
  rw [hkb] at HA
  have H0 : Holds g (w.alloc (.cells #[.string k] 9)) (LnRaw b p s (pts kb (.cells #[.string k] 9) :: F)) := by
    unfold LnRaw at HA ⊢
    exact HA.p6.p6.p6.p6.p6.p6
  have cB := hide (Ln_both_gone (s1 := { s with A := s.A.remove k }) (s2 := s.gone k) (kb := kb) H0
    ((gone_1 (Holds.p1 H0) k (Holds.cell HA rfl)).mono fun r w' ⟨hr, h1⟩ => ⟨hr, h1.p1⟩)
    (fun w1 H1 => (gone_1 (Holds.p2 H1) k (Holds.cell (Holds.p6 H1) rfl)).mono fun r w' ⟨hr, h1⟩ => ⟨hr, h1.p2.p2⟩))
  have hmf : ∀ (fn : Fn) (first cap : Array Value) (w : World), (Instr.makeFunc fn first cap).run Tryz.prog w = .ok (.func fn first cap) w := fun _ _ _ _ => rfl
  clear h HA H0
  go_enter Tryz.func311, Tryz.ntmps311
  go_upto_region 1 with fail
  try simp only [hkb]
  clear hkb
  go_wp2_with (go_at_call 308; (with_reducible refine cB.out.mono ?_); rintro r w1 ⟨rfl, h1⟩; have h1 := hide h1)
  go_end0
  refine ⟨rfl, Holds.toLn ?_⟩
  exact h1.out.p6.drop
/-- A ghost is forgotten. -/
theorem Ln_forget {g w : World} {b tb : Nat} {s : Ln} {F : List SProp} (h : Holds g w (IsLn b tb s :: F)) (k : ByteArray) :
    Calls Tryz.prog 307 #[.pointer (some ⟨b, 0, none⟩), .string k] w fun r w' => r = .returned (.tuple #[]) ∧ Holds g w' (IsLn b tb (s.forget k) :: F) := by
  replace h := h.isLn
  obtain ⟨p, rfl, h⟩ := h
  obtain ⟨_, _, _, _, _, _, c6, c7, c8⟩ := lnc0 h
  have h := hide h
  have i0 : ∀ w : World, (Instr.index 152 (.agg #[.pointer (some ⟨p.ga, 0, none⟩), .pointer (some ⟨p.gb, 0, none⟩)]) (.int .i64 0)).run Tryz.prog w = .ok (.pointer (some ⟨p.ga, 0, none⟩)) w := fun _ => by kernel_rfl
  have i1 : ∀ w : World, (Instr.index 152 (.agg #[.pointer (some ⟨p.ga, 0, none⟩), .pointer (some ⟨p.gb, 0, none⟩)]) (.int .i64 1)).run Tryz.prog w = .ok (.pointer (some ⟨p.gb, 0, none⟩)) w := fun _ => by kernel_rfl
  clear c8
  go_enter Tryz.func307, Tryz.ntmps307
  go_wp2
  refine wp_loop_rounds 3 ?_
  rw [rounds_succ]
  go_wp2_with (go_at_call 164; (with_reducible refine (List_Remove (Holds.p3 h.out) k _ rfl).mono ?_); rintro r w1 ⟨rfl, h1⟩; have h1 := hide h1)
  rw [rounds_succ]
  go_wp2_with (go_at_call 164; (with_reducible refine (List_Remove (Holds.p4 h1.out) k _ rfl).mono ?_); rintro r w2 ⟨rfl, h2⟩; have h2 := hide h2; obtain ⟨_, _, _, _, _, _, _, _, c8⟩ := lnd0 (Holds.p2 h2.out))
  obtain ⟨w5, hdel, H5⟩ := (Holds.p5 h2.out).deleteMap (P := Tryz.prog) (t := 148) Tryz.underlying148 Tryz.underlying9 k 9 0
  rw [TMap.enc_del] at H5
  have H5 := hide H5
  rw [rounds_succ]
  go_wp2
  go_end0
  refine ⟨rfl, Holds.toLn (s := s.forget k) ?_⟩
  exact H5.out.p1.p2.p5.p5.p5
end Go.Proofs.YtbbdimlpofjlfaaGreatDoor
/- A learner in memory: the ghosts' rows. -/
namespace Go.Proofs.YtbbdimlpofjlfaaGreatDoor
open Go Go.RowKit

set_option maxRecDepth 100000
set_option maxHeartbeats 1000000
/-- The last ghosts of a row are off, till so many are left. -/
def Ln.trimToA (s : Ln) (j : Nat) : Ln := { s with GA := s.GA.take j, went := delAll s.went (s.GA.drop j).reverse }
theorem Ln.trimToA_self (s : Ln) : s.trimToA s.GA.length = s := by
  unfold Ln.trimToA
  rw [List.take_length, List.drop_length]
  rfl
theorem Ln.trimToA_step (s : Ln) {i : Nat} (hi : i < s.GA.length) : { s.trimToA (i + 1) with GA := (s.GA.take (i + 1)).dropLast, went := (s.trimToA (i + 1)).went.del (kLast (s.GA.take (i + 1))) } = s.trimToA i := by
  unfold Ln.trimToA
  have e1 : s.GA.drop i = s.GA[i] :: s.GA.drop (i + 1) := List.drop_eq_getElem_cons hi
  have e2 : s.GA.take (i + 1) = s.GA.take i ++ [s.GA[i]] := List.take_succ_eq_append_getElem hi
  rw [e1, List.reverse_cons, e2, List.dropLast_concat]
  rw [show kLast (s.GA.take i ++ [s.GA[i]]) = s.GA[i] by unfold kLast; rw [List.getLast?_concat]; rfl]
  unfold delAll
  rw [List.foldl_append]
  rfl
theorem Ln_trimA {g w : World} {b tb : Nat} {s : Ln} {F : List SProp} (h : Holds g w (IsLn b tb s :: F)) :
    Calls Tryz.prog 322 #[.pointer (some ⟨b, 0, none⟩), .int .i64 0] w fun r w' => r = .returned (.tuple #[]) ∧ Holds g w' (IsLn b tb s.trimA :: F) := by
  replace h := h.isLn
  obtain ⟨p, rfl, h⟩ := h
  rw [show s.trimA = s.trimToA s.most from rfl]
  obtain ⟨most, hmo⟩ : ∃ m, s.most = m := ⟨_, rfl⟩
  rw [hmo]
  replace hmo := hide hmo
  replace h := hide h
  go_enter Tryz.func322, Tryz.ntmps322
  go_wp2
  go_loopg [4] (s.GA.length) (fun k _ wr => ∃ j, Hide (j = k) ∧ j ≤ s.GA.length ∧ Hide (j = s.GA.length ∨ most ≤ j) ∧ Holds g wr (LnRaw b p (s.trimToA j) F))
  case atStart => exact ⟨s.GA.length, ⟨rfl⟩, Nat.le_refl _, ⟨.inl rfl⟩, by rw [Ln.trimToA_self]; exact h.out⟩
  case round =>
    clear h
    obtain ⟨j, hjk, hj, hjm, hh⟩ := hrel
    have hlj : (s.trimToA j).GA.length = j := by show (s.GA.take j).length = j; rw [List.length_take]; omega
    obtain ⟨_, c1, _, _, _, _, c6, c7, c8⟩ := lnc0 hh
    rw [show (s.trimToA j).most = most from hmo.out] at c1
    have hh0 := hide hh
    have cL := hide (fun m => List_Len (Holds.p3 (hh.drewN (n := m))) j hlj)
    replace hj := hide hj
    by_cases hlt : most < j
    · have f2 : decide ((most : Int) < j) = true := decide_eq_true (by omega)
      have f3 : decide (most < j) = true := decide_eq_true hlt
      obtain ⟨x, hx⟩ : ∃ x, kLast (s.trimToA j).GA = x := ⟨_, rfl⟩
      have hE : (!(s.trimToA j).GA.isEmpty) = true := bnot_isEmpty.2 fun e => by rw [e] at hlj; simp at hlj; omega
      have cP := hide (fun m => List_Pop (Holds.p3 (hh.drewN (n := m))) x hx true hE)
      have hstep : Hide ({ s.trimToA j with GA := (s.trimToA j).GA.dropLast, went := (s.trimToA j).went.del x } = s.trimToA (j - 1)) := ⟨by
        rw [← hx]
        obtain ⟨i, rfl⟩ : ∃ i, j = i + 1 := ⟨j - 1, by omega⟩
        exact s.trimToA_step (by have := hj.out; omega)⟩
      replace hlj := hide hlj
      clear hh hx hE
      go_wp2
      go_quiet ((go_at_call 161; exact Calls.quiet_eq (cL.out _)))
      go_upto_region 2 with (go_at_call 162; (with_reducible refine (cP.out _).mono ?_); rintro r w3 ⟨rfl, h3⟩; have h3 := hide h3; obtain ⟨_, _, _, _, _, _, _, _, y8⟩ := lnd0 (Holds.p1 h3.out))
      obtain ⟨w5, hdel, H5⟩ := (Holds.p5 h3.out).deleteMap (P := Tryz.prog) (t := 148) Tryz.underlying148 Tryz.underlying9 x 9 0
      have H6 : Hide (Holds g w5 (LnRaw b p (s.trimToA (j - 1)) F)) := ⟨by
        rw [← hstep.out]
        rw [TMap.enc_del] at H5
        exact H5.p5.p2.p5.p5.p5⟩
      clear H5
      go_wp2
      go_roundg (j - 1)
      case measure => rw [← hjk.out]; omega
      case rel => exact ⟨j - 1, ⟨rfl⟩, by have := hj.out; omega, ⟨.inr (by omega)⟩, H6.out⟩
    · have f2 : decide ((most : Int) < j) = false := decide_eq_false (by omega)
      have f3 : decide (most < j) = false := decide_eq_false hlt
      have hr : Hide (s.trimToA j = s.trimToA most) := ⟨by
        have := hj.out
        rcases hjm.out with h | h
        · subst h
          unfold Ln.trimToA
          rw [List.take_of_length_le (show s.GA.length ≤ most by omega), List.drop_of_length_le (show s.GA.length ≤ most by omega), List.take_length, List.drop_length]
        · obtain rfl : j = most := by omega
          rfl⟩
      replace hlt := hide hlt
      replace hlj := hide hlj
      go_wp2
      go_quiet ((go_at_call 161; exact Calls.quiet_eq (cL.out _)))
      go_wp2
      go_end0
      refine ⟨rfl, ?_⟩
      rw [← hr.out]
      exact Holds.toLn hh0.out.drewN
/-- The last ghosts of a row are off, till so many are left. -/
def Ln.trimToB (s : Ln) (j : Nat) : Ln := { s with GB := s.GB.take j, went := delAll s.went (s.GB.drop j).reverse }
theorem Ln.trimToB_self (s : Ln) : s.trimToB s.GB.length = s := by
  unfold Ln.trimToB
  rw [List.take_length, List.drop_length]
  rfl
theorem Ln.trimToB_step (s : Ln) {i : Nat} (hi : i < s.GB.length) : { s.trimToB (i + 1) with GB := (s.GB.take (i + 1)).dropLast, went := (s.trimToB (i + 1)).went.del (kLast (s.GB.take (i + 1))) } = s.trimToB i := by
  unfold Ln.trimToB
  have e1 : s.GB.drop i = s.GB[i] :: s.GB.drop (i + 1) := List.drop_eq_getElem_cons hi
  have e2 : s.GB.take (i + 1) = s.GB.take i ++ [s.GB[i]] := List.take_succ_eq_append_getElem hi
  rw [e1, List.reverse_cons, e2, List.dropLast_concat]
  rw [show kLast (s.GB.take i ++ [s.GB[i]]) = s.GB[i] by unfold kLast; rw [List.getLast?_concat]; rfl]
  unfold delAll
  rw [List.foldl_append]
  rfl
theorem Ln_trimB {g w : World} {b tb : Nat} {s : Ln} {F : List SProp} (h : Holds g w (IsLn b tb s :: F)) :
    Calls Tryz.prog 322 #[.pointer (some ⟨b, 0, none⟩), .int .i64 1] w fun r w' => r = .returned (.tuple #[]) ∧ Holds g w' (IsLn b tb s.trimB :: F) := by
  replace h := h.isLn
  obtain ⟨p, rfl, h⟩ := h
  rw [show s.trimB = s.trimToB s.most from rfl]
  obtain ⟨most, hmo⟩ : ∃ m, s.most = m := ⟨_, rfl⟩
  rw [hmo]
  replace hmo := hide hmo
  replace h := hide h
  go_enter Tryz.func322, Tryz.ntmps322
  go_wp2
  go_loopg [4] (s.GB.length) (fun k _ wr => ∃ j, Hide (j = k) ∧ j ≤ s.GB.length ∧ Hide (j = s.GB.length ∨ most ≤ j) ∧ Holds g wr (LnRaw b p (s.trimToB j) F))
  case atStart => exact ⟨s.GB.length, ⟨rfl⟩, Nat.le_refl _, ⟨.inl rfl⟩, by rw [Ln.trimToB_self]; exact h.out⟩
  case round =>
    clear h
    obtain ⟨j, hjk, hj, hjm, hh⟩ := hrel
    have hlj : (s.trimToB j).GB.length = j := by show (s.GB.take j).length = j; rw [List.length_take]; omega
    obtain ⟨_, c1, _, _, _, _, c6, c7, c8⟩ := lnc0 hh
    rw [show (s.trimToB j).most = most from hmo.out] at c1
    have hh0 := hide hh
    have cL := hide (fun m => List_Len (Holds.p4 (hh.drewN (n := m))) j hlj)
    replace hj := hide hj
    by_cases hlt : most < j
    · have f2 : decide ((most : Int) < j) = true := decide_eq_true (by omega)
      have f3 : decide (most < j) = true := decide_eq_true hlt
      obtain ⟨x, hx⟩ : ∃ x, kLast (s.trimToB j).GB = x := ⟨_, rfl⟩
      have hE : (!(s.trimToB j).GB.isEmpty) = true := bnot_isEmpty.2 fun e => by rw [e] at hlj; simp at hlj; omega
      have cP := hide (fun m => List_Pop (Holds.p4 (hh.drewN (n := m))) x hx true hE)
      have hstep : Hide ({ s.trimToB j with GB := (s.trimToB j).GB.dropLast, went := (s.trimToB j).went.del x } = s.trimToB (j - 1)) := ⟨by
        rw [← hx]
        obtain ⟨i, rfl⟩ : ∃ i, j = i + 1 := ⟨j - 1, by omega⟩
        exact s.trimToB_step (by have := hj.out; omega)⟩
      replace hlj := hide hlj
      clear hh hx hE
      go_wp2
      go_quiet ((go_at_call 161; exact Calls.quiet_eq (cL.out _)))
      go_upto_region 2 with (go_at_call 162; (with_reducible refine (cP.out _).mono ?_); rintro r w3 ⟨rfl, h3⟩; have h3 := hide h3; obtain ⟨_, _, _, _, _, _, _, _, y8⟩ := lnd0 (Holds.p1 h3.out))
      obtain ⟨w5, hdel, H5⟩ := (Holds.p5 h3.out).deleteMap (P := Tryz.prog) (t := 148) Tryz.underlying148 Tryz.underlying9 x 9 0
      have H6 : Hide (Holds g w5 (LnRaw b p (s.trimToB (j - 1)) F)) := ⟨by
        rw [← hstep.out]
        rw [TMap.enc_del] at H5
        exact H5.p1.p5.p5.p5.p5⟩
      clear H5
      go_wp2
      go_roundg (j - 1)
      case measure => rw [← hjk.out]; omega
      case rel => exact ⟨j - 1, ⟨rfl⟩, by have := hj.out; omega, ⟨.inr (by omega)⟩, H6.out⟩
    · have f2 : decide ((most : Int) < j) = false := decide_eq_false (by omega)
      have f3 : decide (most < j) = false := decide_eq_false hlt
      have hr : Hide (s.trimToB j = s.trimToB most) := ⟨by
        have := hj.out
        rcases hjm.out with h | h
        · subst h
          unfold Ln.trimToB
          rw [List.take_of_length_le (show s.GB.length ≤ most by omega), List.drop_of_length_le (show s.GB.length ≤ most by omega), List.take_length, List.drop_length]
        · obtain rfl : j = most := by omega
          rfl⟩
      replace hlt := hide hlt
      replace hlj := hide hlj
      go_wp2
      go_quiet ((go_at_call 161; exact Calls.quiet_eq (cL.out _)))
      go_wp2
      go_end0
      refine ⟨rfl, ?_⟩
      rw [← hr.out]
      exact Holds.toLn hh0.out.drewN
end Go.Proofs.YtbbdimlpofjlfaaGreatDoor
