/- The law InstOne: its walk. -/
import Derived.Test.YtbbdimlpofjlfaaGreatDoorQRefs10
import Derived.Test.YtbbdimlpofjlfaaGreatDoorQQuiet
import Derived.Deep.DeepCutAuto
namespace Go.Proofs.YtbbdimlpofjlfaaGreatDoor
open Go Go.RowKit

/-- What is known of an instance with room for one, after i keys. -/
structure One1 (i : Nat) (keys : List ByteArray) (x : In) (t : Tape) : Prop where
  good : IGood 1 i x t
  res : ∀ c, c ∈ x.c.res ↔ 0 < i ∧ keys[i - 1]? = some c
theorem one_keys {c : Ca} {k : ByteArray} (h : c.Inv) (hr : ∀ x, x ∈ c.res ↔ x = k) : c.keys = [k] := by
  have h1 := same_len h.nodup (m := [k]) (by simp) (fun x => by rw [hr, List.mem_singleton])
  have h2 := c.keys_res.2
  rw [h1] at h2
  obtain ⟨q, hq⟩ := List.length_eq_one_iff.1 h2
  rw [hq]
  have : q ∈ c.keys := by rw [hq]; simp
  rw [c.keys_res.1, hr] at this
  rw [this]
/-- The three ways of a request. -/
inductive OneWay (i : Nat) (keys : List ByteArray) (k : ByteArray) : Stp → Prop
  | first (h : i = 0) : OneWay i keys k ⟨false, ⟨#[]⟩, false⟩
  | hit (h : 0 < i) (hp : keys[i - 1]? = some k) : OneWay i keys k ⟨true, ⟨#[]⟩, false⟩
  | out (v : ByteArray) (h : 0 < i) (hp : keys[i - 1]? = some v) (hne : k ≠ v) : OneWay i keys k ⟨false, v, true⟩
theorem One1.req {i : Nat} {keys : List ByteArray} {x : In} {t : Tape} {k : ByteArray} (e : One1 i keys x t) (hk : keys[i]? = some k) :
    ∃ y u st, x.req t k = (y, u, st) ∧ OneWay i keys k st ∧ One1 (i + 1) keys y u ∧ y.c.keys = [k] := by
  obtain ⟨a1, a2⟩ := Ca.asked e.good.inv t k
  have hg := e.good.req k
  obtain ⟨⟨y, u, st⟩, hr⟩ : ∃ r, x.req t k = r := ⟨_, rfl⟩
  have hst : (x.c.req t k).2.2 = st := congrArg (fun q => q.2.2) hr
  have hyc : (x.c.req t k).1 = y.c := congrArg (fun q => q.1.c) hr
  rw [hr] at hg
  rw [hst, hyc, e.good.most] at a2
  have hlt : i < keys.length := by
    rcases Nat.lt_or_ge i keys.length with h | h
    · exact h
    · rw [List.getElem?_eq_none h] at hk; cases hk
  have go : (∀ c, c ∈ y.c.res ↔ c = k) → One1 (i + 1) keys y u ∧ y.c.keys = [k] := fun hres => by
    refine ⟨⟨hg, fun c => ?_⟩, one_keys hg.inv hres⟩
    rw [hres, show i + 1 - 1 = i from rfl, hk]
    exact ⟨fun h => ⟨by omega, by rw [h]⟩, fun h => (Option.some.inj h.2).symm⟩
  refine ⟨y, u, st, hr, ?_⟩
  cases a2 with
  | hit hkr res =>
    obtain ⟨p1, p2⟩ := (e.res k).1 hkr
    refine ⟨.hit p1 p2, go fun c => ?_⟩
    rw [res, e.res, p2]
    exact ⟨fun h => (Option.some.inj h.2).symm, fun h => ⟨p1, by rw [h]⟩⟩
  | less hkr hl res =>
    have h0 : x.c.res = [] := List.length_eq_zero_iff.1 (by omega)
    have hi : i = 0 := by
      rcases Nat.eq_zero_or_pos i with h | h
      · exact h
      · exfalso
        have : keys[i - 1] ∈ x.c.res := (e.res _).2 ⟨h, List.getElem?_eq_getElem (by omega)⟩
        rw [h0] at this
        cases this
    refine ⟨.first hi, go fun c => ?_⟩
    rw [res, h0]
    simp
  | full v hkr h0 hl hv res =>
    obtain ⟨p1, p2⟩ := (e.res v).1 hv
    refine ⟨.out v p1 p2 (fun h => hkr (h ▸ hv)), go fun c => ?_⟩
    rw [res, e.res, p2]
    exact ⟨fun h => h.elim id fun h => absurd (Option.some.inj h.1.2).symm h.2, .inl⟩
  | zero h0 => exact absurd h0 (by omega)
set_option maxRecDepth 100000
set_option maxHeartbeats 4000000
theorem In_New1k {g w : World} {F : List SProp} {tb : Nat} (kind : Nat) (hk : kind < 7) (h : Holds g w F) :
    Calls Tryz.prog 12 #[.int .i64 (kind : Nat), .int .i64 1, .pointer (some ⟨tb, 0, none⟩), .int .i64 0] w fun r w' => ∃ b, r = .returned (.tuple #[.pointer (some ⟨b, 0, none⟩), .nilIface]) ∧ Holds g w' (IsIn b tb ⟨Ca.new kind 1 0, 0, 0⟩ :: F) := In_New kind hk 1 (by omega) 0 h
theorem walk_InstOne (kind : Int) (vl vk : Value) (lane : List Nat) (keys : List ByteArray) (W : World) (hE : Env W) (hl : RowR W vl (nums64 lane)) (hll : ∀ x ∈ lane, x < 18446744073709551616) (hk : RowR W vk (strs keys)) :
    Calls Tryz.prog 4 #[.int .i64 kind, vl, vk] W fun e w' => e = .returned (.bool true) ∧ Holds W w' [] := by
  have hE := hide hE
  obtain ⟨al, cl, hvl⟩ := hl.shape
  obtain ⟨ak, ck, hvk⟩ := hk.shape
  rw [nums64_length] at hvl
  rw [strs_length] at hvk
  subst hvl
  subst hvk
  obtain ⟨N, hN⟩ : ∃ N, lane.length = N := ⟨_, rfl⟩
  obtain ⟨n, hn⟩ : ∃ n, keys.length = n := ⟨_, rfl⟩
  rw [hN] at hl ⊢
  rw [hn] at hk ⊢
  replace hN := hide hN
  replace hn := hide hn
  replace hl := hide hl
  replace hk := hide hk
  replace hll := hide hll
  have h0 := hide (Holds.start W)
  by_cases g1 : kind < 0
  · go_enter Tryz.func4, Tryz.ntmps4
    go_wp2_with (go_at_call 11; (with_reducible refine (awake11 W hE.out).mono ?_); rintro r w1 ⟨rfl, k1⟩)
    go_ret
    exact ⟨rfl, h0.out.keep k1⟩
  by_cases g2 : 6 < kind
  · go_enter Tryz.func4, Tryz.ntmps4
    go_wp2_with (go_at_call 11; (with_reducible refine (awake11 W hE.out).mono ?_); rintro r w1 ⟨rfl, k1⟩)
    go_ret
    exact ⟨rfl, h0.out.keep k1⟩
  by_cases g5 : 200 < n
  · have g5' : (200 : Int) < n := by omega
    go_enter Tryz.func4, Tryz.ntmps4
    go_wp2_with (go_at_call 11; (with_reducible refine (awake11 W hE.out).mono ?_); rintro r w1 ⟨rfl, k1⟩)
    go_ret
    exact ⟨rfl, h0.out.keep k1⟩
  have g5' : ¬ (200 : Int) < n := by omega
  by_cases g6 : 300 < N
  · have g6' : (300 : Int) < N := by omega
    go_enter Tryz.func4, Tryz.ntmps4
    go_wp2_with (go_at_call 11; (with_reducible refine (awake11 W hE.out).mono ?_); rintro r w1 ⟨rfl, k1⟩)
    go_ret
    exact ⟨rfl, h0.out.keep k1⟩
  have g6' : ¬ (300 : Int) < N := by omega
  obtain ⟨kd, rfl⟩ : ∃ m : Nat, kind = m := ⟨kind.toNat, by omega⟩
  have hkd : Hide (kd < 7) := ⟨by omega⟩
  have hNl : Hide (lane.length ≤ 300) := ⟨by rw [hN.out]; omega⟩
  have hnl : Hide (n ≤ 200) := ⟨by omega⟩
  have htk : Hide (tOk [lane]) := ⟨by intro l hl x hx; rw [List.mem_singleton] at hl; subst hl; exact hll.out x hx⟩
  go_enter Tryz.func4, Tryz.ntmps4
  go_wp2_with (first
    | (go_at_call 11; (with_reducible refine (awake11 W hE.out).mono ?_); rintro r w1 ⟨rfl, k1⟩; have k1 := hide k1)
    | (go_at_call 13; (with_reducible refine (Draw_One _ lane (by have := hNl.out; omega) (fun wx hx => hl.out.keep hx.toKeep) (h0.out.keep k1.out)).mono ?_); rintro r w2 ⟨tb, rfl, h2⟩; have h2 := hide h2)
    | (go_at_call 12; (with_reducible refine (In_New1k (tb := tb) kd hkd.out h2.out).mono ?_); rintro r w3 ⟨b, rfl, h3⟩; have h3 := hide h3))
  have hI0 : Hide (One1 0 keys ⟨Ca.new kd 1 0, 0, 0⟩ [lane]) := ⟨⟨IGood.new kd 1 0 hkd.out (by omega) [lane] htk.out, fun c => by rw [(Ca.new_is kd 1 0 hkd.out).2.1]; exact ⟨(fun h => by cases h), fun h => absurd h.1 (by omega)⟩⟩⟩
  clear g1 g2 g5 g6 g5' g6'
  go_loopg [9] (n) (fun c z wr => ∃ i x t, Hide (n - i = c) ∧ i ≤ n ∧ z = .int .i64 (i : Nat) ∧ Hide (One1 i keys x t) ∧ Holds W wr (IsIn b tb x :: IsTape tb t :: []))
  case atStart => exact ⟨0, ⟨Ca.new kd 1 0, 0, 0⟩, [lane], ⟨rfl⟩, Nat.zero_le _, rfl, hI0, h3.out⟩
  case round =>
    clear h3 hI0
    obtain ⟨i, x, t, hci, hin, rfl, hI, hh⟩ := hrel
    have h3 := hide hh
    clear hh
    by_cases hlt : i < n
    · have hlt' : (i : Int) < n := by omega
      have hnl2 := hnl.out
      have hi2 := hide (show i < 20000 by omega)
      have e1 : IntKind.i64.wrap ((i : Int) + 1) = ((i + 1 : Nat) : Int) := by rw [IntWalk.i64_in _ (by omega)]; omega
      obtain ⟨key, hx⟩ : ∃ x, keys[i]? = some x := ⟨_, List.getElem?_eq_getElem (by rw [hn.out]; exact hlt)⟩
      obtain ⟨bk, ok, hak, cW⟩ := RowR.strCell hk.out hx
      subst hak
      have cx := h3.out.toKeep.cell cW
      replace cW := hide cW
      obtain ⟨y, u, ⟨hit, v, out⟩, hr, hway, hIy, hkeys⟩ := hI.out.req hx
      replace hr := hide hr
      replace hIy := hide hIy
      replace hkeys := hide hkeys
      replace hx := hide hx
      have hIg := hide hI.out.good
      clear hnl2
      go_upto_region 12 with (go_at_call 15; (with_reducible refine (In_Ask hIg.out hi2.out hr.out h3.out).mono ?_); rintro r w5 ⟨rfl, h5⟩)
      obtain ⟨rs, hrs⟩ : ∃ q, w5.heap.size = q := ⟨_, rfl⟩
      have h6 := h5.alloc (o := .cells #[.bool hit, .string v, .bool out] 34)
      rw [hrs] at h6
      simp only [hrs]
      generalize w5.alloc (.cells #[.bool hit, .string v, .bool out] 34) = W6 at h6 ⊢
      clear hrs h5 h3 cx
      have hKk := hide (fun (w : World) (L : List SProp) (h : Holds W w (IsIn b tb y :: L)) => by
        have c := In_KeysI hIy.out.good (by have := hi2.out; have := hnl.out; omega) h
        rw [← (Ca.keys_res y.c).2, hkeys.out] at c
        simp only [List.length_singleton] at c
        exact c)
      have hSm := hide (fun (w : World) (a b : Value) (h1 : RowAt w a (strs [key])) (h2 : RowAt w b (strs [key])) => Ref3_Same h1 h2 (by simp))
      cases hway with
      | first h0 =>
        have hi0 : decide ((0 : Int) < i) = false := decide_eq_false (by omega)
        have hi1 : decide (0 < i) = false := decide_eq_false (by omega)
        clear h0
        replace h6 := hide h6
        go_wp2
        (refine wp_region_kept (by kernel_rfl) (by kernel_rfl) ?_; (repeat (go_big_quiet_step (fail))); refine wpQuiet_nil ?_; intro _ hw'; obtain ⟨uq, hw''⟩ := hw'; subst hw'')
        have hQ := hide (uq.holds h6.out)
        have h6d := hide hQ.out.drew
        have hS := hide (fun (w' : World) (L : List SProp) (k : Keep W w') (h : Holds W w' (pts rs (.cells #[.bool false, .string ⟨#[]⟩, .bool false] 34) :: L)) => And.intro (Holds.cell (off := 0) h rfl) (And.intro (Holds.cell (off := 1) h rfl) (And.intro (Holds.cell (off := 2) h rfl) (k.cell cW.out))))
        go_upto_region 13 with fail
        refine wp_region_held_drew (S := fun w' => w'.cell? ⟨rs, 0, none⟩ = some (.bool false) ∧ w'.cell? ⟨rs, 1, none⟩ = some (.string ⟨#[]⟩) ∧ w'.cell? ⟨rs, 2, none⟩ = some (.bool false) ∧ w'.cell? ⟨bk, ok + i, none⟩ = some (.string key)) (by kernel_rfl) (hS.out _ _ h6d.out.toKeep h6d.out) (fun hHeld => ?_)
        first
          | (refine wpAnyH_take (i := 0) (oi := { dst := some 70, op := Op.fieldAddr 34 (Operand.tmp 10) 0, type := 0, pos := "law.go:196", after := #[], guard := none }) (v := ?_) rfl (by kernel_rfl) (by kernel_rfl) (by kernel_rfl) (fun _ _ _ h => h) (Or.inl ⟨by rfl, ?hy⟩) (by assumption) ?_; case hy => ((intro w hSw; (try dsimp only at hSw); go_simp); (try with_reducible rfl)))
          | (refine wpAnyH_take (i := 0) (oi := { dst := some 70, op := Op.fieldAddr 34 (Operand.tmp 10) 0, type := 0, pos := "law.go:196", after := #[], guard := none }) (v := undef) rfl (by kernel_rfl) (by kernel_rfl) (by kernel_rfl) (fun _ _ _ h => h) (Or.inr ⟨by rfl, rfl⟩) (by assumption) ?_)
          | fail
        try simp only [Act.put, List.setIfInBounds_toArray, List.set_cons_zero, List.set_cons_succ]
        first
          | (refine wpAnyH_take (i := 1) (oi := { dst := some 71, op := Op.load 4 (Operand.tmp 70), type := 4, pos := "law.go:196", after := #[{ on := 0, ground := Ground.data }], guard := none }) (v := ?_) rfl (by kernel_rfl) (by kernel_rfl) (by kernel_rfl) (fun _ _ _ h => h) (Or.inl ⟨by rfl, ?hy⟩) (by assumption) ?_; case hy => ((intro w hSw; (try dsimp only at hSw); go_simp); (try with_reducible rfl)))
          | (refine wpAnyH_take (i := 1) (oi := { dst := some 71, op := Op.load 4 (Operand.tmp 70), type := 4, pos := "law.go:196", after := #[{ on := 0, ground := Ground.data }], guard := none }) (v := undef) rfl (by kernel_rfl) (by kernel_rfl) (by kernel_rfl) (fun _ _ _ h => h) (Or.inr ⟨by rfl, rfl⟩) (by assumption) ?_)
          | fail
        try simp only [Act.put, List.setIfInBounds_toArray, List.set_cons_zero, List.set_cons_succ]
        first
          | (refine wpAnyH_take (i := 2) (oi := { dst := some 72, op := Op.move (Operand.tmp 11), type := 4, pos := "law.go:196", after := #[], guard := none }) (v := ?_) rfl (by kernel_rfl) (by kernel_rfl) (by kernel_rfl) (fun _ _ _ h => h) (Or.inl ⟨by rfl, ?hy⟩) (by assumption) ?_; case hy => ((intro w hSw; (try dsimp only at hSw); go_simp); (try with_reducible rfl)))
          | (refine wpAnyH_take (i := 2) (oi := { dst := some 72, op := Op.move (Operand.tmp 11), type := 4, pos := "law.go:196", after := #[], guard := none }) (v := undef) rfl (by kernel_rfl) (by kernel_rfl) (by kernel_rfl) (fun _ _ _ h => h) (Or.inr ⟨by rfl, rfl⟩) (by assumption) ?_)
          | fail
        try simp only [Act.put, List.setIfInBounds_toArray, List.set_cons_zero, List.set_cons_succ]
        first
          | (refine wpAnyH_take (i := 3) (oi := { dst := some 73, op := Op.binOp BinOp.neq 4 (Operand.tmp 71) (Operand.tmp 72) 4, type := 4, pos := "law.go:196", after := #[{ on := 1, ground := Ground.data }, { on := 2, ground := Ground.data }], guard := none }) (v := ?_) rfl (by kernel_rfl) (by kernel_rfl) (by kernel_rfl) (fun _ _ _ h => h) (Or.inl ⟨by rfl, ?hy⟩) (by assumption) ?_; case hy => ((intro w hSw; (try dsimp only at hSw); go_simp); (try with_reducible rfl)))
          | (refine wpAnyH_take (i := 3) (oi := { dst := some 73, op := Op.binOp BinOp.neq 4 (Operand.tmp 71) (Operand.tmp 72) 4, type := 4, pos := "law.go:196", after := #[{ on := 1, ground := Ground.data }, { on := 2, ground := Ground.data }], guard := none }) (v := undef) rfl (by kernel_rfl) (by kernel_rfl) (by kernel_rfl) (fun _ _ _ h => h) (Or.inr ⟨by rfl, rfl⟩) (by assumption) ?_)
          | fail
        try simp only [Act.put, List.setIfInBounds_toArray, List.set_cons_zero, List.set_cons_succ]
        first
          | (refine wpAnyH_take (i := 4) (oi := { dst := some 74, op := Op.move (Operand.tmp 73), type := 4, pos := "law.go:196", after := #[{ on := 3, ground := Ground.data }], guard := none }) (v := ?_) rfl (by kernel_rfl) (by kernel_rfl) (by kernel_rfl) (fun _ _ _ h => h) (Or.inl ⟨by rfl, ?hy⟩) (by assumption) ?_; case hy => ((intro w hSw; (try dsimp only at hSw); go_simp); (try with_reducible rfl)))
          | (refine wpAnyH_take (i := 4) (oi := { dst := some 74, op := Op.move (Operand.tmp 73), type := 4, pos := "law.go:196", after := #[{ on := 3, ground := Ground.data }], guard := none }) (v := undef) rfl (by kernel_rfl) (by kernel_rfl) (by kernel_rfl) (fun _ _ _ h => h) (Or.inr ⟨by rfl, rfl⟩) (by assumption) ?_)
          | fail
        try simp only [Act.put, List.setIfInBounds_toArray, List.set_cons_zero, List.set_cons_succ]
        first
          | (refine wpAnyH_take (i := 5) (oi := { dst := some 75, op := Op.fieldAddr 34 (Operand.tmp 10) 2, type := 0, pos := "law.go:196", after := #[{ on := 4, ground := Ground.guard }], guard := some (4, false) }) (v := ?_) rfl (by kernel_rfl) (by kernel_rfl) (by kernel_rfl) (fun _ _ _ h => h) (Or.inl ⟨by rfl, ?hy⟩) (by assumption) ?_; case hy => ((intro w hSw; (try dsimp only at hSw); go_simp); (try with_reducible rfl)))
          | (refine wpAnyH_take (i := 5) (oi := { dst := some 75, op := Op.fieldAddr 34 (Operand.tmp 10) 2, type := 0, pos := "law.go:196", after := #[{ on := 4, ground := Ground.guard }], guard := some (4, false) }) (v := undef) rfl (by kernel_rfl) (by kernel_rfl) (by kernel_rfl) (fun _ _ _ h => h) (Or.inr ⟨by rfl, rfl⟩) (by assumption) ?_)
          | fail
        try simp only [Act.put, List.setIfInBounds_toArray, List.set_cons_zero, List.set_cons_succ]
        first
          | (refine wpAnyH_take (i := 6) (oi := { dst := some 76, op := Op.load 4 (Operand.tmp 75), type := 4, pos := "law.go:196", after := #[{ on := 5, ground := Ground.data }, { on := 4, ground := Ground.guard }], guard := some (4, false) }) (v := ?_) rfl (by kernel_rfl) (by kernel_rfl) (by kernel_rfl) (fun _ _ _ h => h) (Or.inl ⟨by rfl, ?hy⟩) (by assumption) ?_; case hy => ((intro w hSw; (try dsimp only at hSw); go_simp); (try with_reducible rfl)))
          | (refine wpAnyH_take (i := 6) (oi := { dst := some 76, op := Op.load 4 (Operand.tmp 75), type := 4, pos := "law.go:196", after := #[{ on := 5, ground := Ground.data }, { on := 4, ground := Ground.guard }], guard := some (4, false) }) (v := undef) rfl (by kernel_rfl) (by kernel_rfl) (by kernel_rfl) (fun _ _ _ h => h) (Or.inr ⟨by rfl, rfl⟩) (by assumption) ?_)
          | fail
        try simp only [Act.put, List.setIfInBounds_toArray, List.set_cons_zero, List.set_cons_succ]
        first
          | (refine wpAnyH_take (i := 7) (oi := { dst := some 77, op := Op.move (Operand.tmp 9), type := 3, pos := "law.go:196", after := #[{ on := 4, ground := Ground.guard }], guard := some (4, false) }) (v := ?_) rfl (by kernel_rfl) (by kernel_rfl) (by kernel_rfl) (fun _ _ _ h => h) (Or.inl ⟨by rfl, ?hy⟩) (by assumption) ?_; case hy => ((intro w hSw; (try dsimp only at hSw); go_simp); (try with_reducible rfl)))
          | (refine wpAnyH_take (i := 7) (oi := { dst := some 77, op := Op.move (Operand.tmp 9), type := 3, pos := "law.go:196", after := #[{ on := 4, ground := Ground.guard }], guard := some (4, false) }) (v := undef) rfl (by kernel_rfl) (by kernel_rfl) (by kernel_rfl) (fun _ _ _ h => h) (Or.inr ⟨by rfl, rfl⟩) (by assumption) ?_)
          | fail
        try simp only [Act.put, List.setIfInBounds_toArray, List.set_cons_zero, List.set_cons_succ]
        first
          | (refine wpAnyH_take (i := 8) (oi := { dst := some 78, op := Op.binOp BinOp.gtr 3 (Operand.tmp 77) (Operand.const (Value.int IntKind.i64 0)) 3, type := 4, pos := "law.go:196", after := #[{ on := 7, ground := Ground.data }, { on := 4, ground := Ground.guard }], guard := some (4, false) }) (v := ?_) rfl (by kernel_rfl) (by kernel_rfl) (by kernel_rfl) (fun _ _ _ h => h) (Or.inl ⟨by rfl, ?hy⟩) (by assumption) ?_; case hy => ((intro w hSw; (try dsimp only at hSw); go_simp); (try with_reducible rfl)))
          | (refine wpAnyH_take (i := 8) (oi := { dst := some 78, op := Op.binOp BinOp.gtr 3 (Operand.tmp 77) (Operand.const (Value.int IntKind.i64 0)) 3, type := 4, pos := "law.go:196", after := #[{ on := 7, ground := Ground.data }, { on := 4, ground := Ground.guard }], guard := some (4, false) }) (v := undef) rfl (by kernel_rfl) (by kernel_rfl) (by kernel_rfl) (fun _ _ _ h => h) (Or.inr ⟨by rfl, rfl⟩) (by assumption) ?_)
          | fail
        try simp only [Act.put, List.setIfInBounds_toArray, List.set_cons_zero, List.set_cons_succ]
        first
          | (refine wpAnyH_take (i := 9) (oi := { dst := some 79, op := Op.move (Operand.tmp 78), type := 4, pos := "law.go:196", after := #[{ on := 8, ground := Ground.data }, { on := 4, ground := Ground.chain }, { on := 4, ground := Ground.guard }], guard := some (4, false) }) (v := ?_) rfl (by kernel_rfl) (by kernel_rfl) (by kernel_rfl) (fun _ _ _ h => h) (Or.inl ⟨by rfl, ?hy⟩) (by assumption) ?_; case hy => ((intro w hSw; (try dsimp only at hSw); go_simp); (try with_reducible rfl)))
          | (refine wpAnyH_take (i := 9) (oi := { dst := some 79, op := Op.move (Operand.tmp 78), type := 4, pos := "law.go:196", after := #[{ on := 8, ground := Ground.data }, { on := 4, ground := Ground.chain }, { on := 4, ground := Ground.guard }], guard := some (4, false) }) (v := undef) rfl (by kernel_rfl) (by kernel_rfl) (by kernel_rfl) (fun _ _ _ h => h) (Or.inr ⟨by rfl, rfl⟩) (by assumption) ?_)
          | fail
        try simp only [Act.put, List.setIfInBounds_toArray, List.set_cons_zero, List.set_cons_succ]
        first
          | (refine wpAnyH_take (i := 10) (oi := { dst := some 80, op := Op.move (Operand.tmp 11), type := 4, pos := "law.go:196", after := #[{ on := 9, ground := Ground.guard }], guard := some (9, true) }) (v := ?_) rfl (by kernel_rfl) (by kernel_rfl) (by kernel_rfl) (fun _ _ _ h => h) (Or.inl ⟨by rfl, ?hy⟩) (by assumption) ?_; case hy => ((intro w hSw; (try dsimp only at hSw); go_simp); (try with_reducible rfl)))
          | (refine wpAnyH_take (i := 10) (oi := { dst := some 80, op := Op.move (Operand.tmp 11), type := 4, pos := "law.go:196", after := #[{ on := 9, ground := Ground.guard }], guard := some (9, true) }) (v := undef) rfl (by kernel_rfl) (by kernel_rfl) (by kernel_rfl) (fun _ _ _ h => h) (Or.inr ⟨by rfl, rfl⟩) (by assumption) ?_)
          | fail
        try simp only [Act.put, List.setIfInBounds_toArray, List.set_cons_zero, List.set_cons_succ]
        first
          | (refine wpAnyH_take (i := 11) (oi := { dst := some 81, op := Op.unOp UnOp.not 4 (Operand.tmp 80), type := 4, pos := "law.go:196", after := #[{ on := 10, ground := Ground.data }, { on := 9, ground := Ground.guard }], guard := some (9, true) }) (v := ?_) rfl (by kernel_rfl) (by kernel_rfl) (by kernel_rfl) (fun _ _ _ h => h) (Or.inl ⟨by rfl, ?hy⟩) (by assumption) ?_; case hy => ((intro w hSw; (try dsimp only at hSw); go_simp); (try with_reducible rfl)))
          | (refine wpAnyH_take (i := 11) (oi := { dst := some 81, op := Op.unOp UnOp.not 4 (Operand.tmp 80), type := 4, pos := "law.go:196", after := #[{ on := 10, ground := Ground.data }, { on := 9, ground := Ground.guard }], guard := some (9, true) }) (v := undef) rfl (by kernel_rfl) (by kernel_rfl) (by kernel_rfl) (fun _ _ _ h => h) (Or.inr ⟨by rfl, rfl⟩) (by assumption) ?_)
          | fail
        try simp only [Act.put, List.setIfInBounds_toArray, List.set_cons_zero, List.set_cons_succ]
        first
          | (refine wpAnyH_take (i := 12) (oi := { dst := some 82, op := Op.pick (Operand.tmp 79) (Operand.tmp 81) (Operand.const (Value.bool false)), type := 4, pos := "law.go:196", after := #[{ on := 9, ground := Ground.data }, { on := 11, ground := Ground.data }, { on := 4, ground := Ground.guard }], guard := some (4, false) }) (v := ?_) rfl (by kernel_rfl) (by kernel_rfl) (by kernel_rfl) (fun _ _ _ h => h) (Or.inl ⟨by rfl, ?hy⟩) (by assumption) ?_; case hy => ((intro w hSw; (try dsimp only at hSw); go_simp); (try with_reducible rfl)))
          | (refine wpAnyH_take (i := 12) (oi := { dst := some 82, op := Op.pick (Operand.tmp 79) (Operand.tmp 81) (Operand.const (Value.bool false)), type := 4, pos := "law.go:196", after := #[{ on := 9, ground := Ground.data }, { on := 11, ground := Ground.data }, { on := 4, ground := Ground.guard }], guard := some (4, false) }) (v := undef) rfl (by kernel_rfl) (by kernel_rfl) (by kernel_rfl) (fun _ _ _ h => h) (Or.inr ⟨by rfl, rfl⟩) (by assumption) ?_)
          | fail
        try simp only [Act.put, List.setIfInBounds_toArray, List.set_cons_zero, List.set_cons_succ]
        first
          | (refine wpAnyH_take (i := 13) (oi := { dst := some 83, op := Op.binOp BinOp.neq 4 (Operand.tmp 76) (Operand.tmp 82) 4, type := 4, pos := "law.go:196", after := #[{ on := 6, ground := Ground.data }, { on := 12, ground := Ground.data }, { on := 4, ground := Ground.guard }], guard := some (4, false) }) (v := ?_) rfl (by kernel_rfl) (by kernel_rfl) (by kernel_rfl) (fun _ _ _ h => h) (Or.inl ⟨by rfl, ?hy⟩) (by assumption) ?_; case hy => ((intro w hSw; (try dsimp only at hSw); go_simp); (try with_reducible rfl)))
          | (refine wpAnyH_take (i := 13) (oi := { dst := some 83, op := Op.binOp BinOp.neq 4 (Operand.tmp 76) (Operand.tmp 82) 4, type := 4, pos := "law.go:196", after := #[{ on := 6, ground := Ground.data }, { on := 12, ground := Ground.data }, { on := 4, ground := Ground.guard }], guard := some (4, false) }) (v := undef) rfl (by kernel_rfl) (by kernel_rfl) (by kernel_rfl) (fun _ _ _ h => h) (Or.inr ⟨by rfl, rfl⟩) (by assumption) ?_)
          | fail
        try simp only [Act.put, List.setIfInBounds_toArray, List.set_cons_zero, List.set_cons_succ]
        first
          | (refine wpAnyH_take (i := 14) (oi := { dst := some 84, op := Op.pick (Operand.tmp 74) (Operand.const (Value.bool true)) (Operand.tmp 83), type := 4, pos := "law.go:196", after := #[{ on := 4, ground := Ground.data }, { on := 13, ground := Ground.data }], guard := none }) (v := ?_) rfl (by kernel_rfl) (by kernel_rfl) (by kernel_rfl) (fun _ _ _ h => h) (Or.inl ⟨by rfl, ?hy⟩) (by assumption) ?_; case hy => ((intro w hSw; (try dsimp only at hSw); go_simp); (try with_reducible rfl)))
          | (refine wpAnyH_take (i := 14) (oi := { dst := some 84, op := Op.pick (Operand.tmp 74) (Operand.const (Value.bool true)) (Operand.tmp 83), type := 4, pos := "law.go:196", after := #[{ on := 4, ground := Ground.data }, { on := 13, ground := Ground.data }], guard := none }) (v := undef) rfl (by kernel_rfl) (by kernel_rfl) (by kernel_rfl) (fun _ _ _ h => h) (Or.inr ⟨by rfl, rfl⟩) (by assumption) ?_)
          | fail
        try simp only [Act.put, List.setIfInBounds_toArray, List.set_cons_zero, List.set_cons_succ]
        first
          | (refine wpAnyH_take (i := 15) (oi := { dst := some 85, op := Op.move (Operand.tmp 84), type := 4, pos := "law.go:196", after := #[{ on := 14, ground := Ground.data }, { on := 9, ground := Ground.chain }], guard := none }) (v := ?_) rfl (by kernel_rfl) (by kernel_rfl) (by kernel_rfl) (fun _ _ _ h => h) (Or.inl ⟨by rfl, ?hy⟩) (by assumption) ?_; case hy => ((intro w hSw; (try dsimp only at hSw); go_simp); (try with_reducible rfl)))
          | (refine wpAnyH_take (i := 15) (oi := { dst := some 85, op := Op.move (Operand.tmp 84), type := 4, pos := "law.go:196", after := #[{ on := 14, ground := Ground.data }, { on := 9, ground := Ground.chain }], guard := none }) (v := undef) rfl (by kernel_rfl) (by kernel_rfl) (by kernel_rfl) (fun _ _ _ h => h) (Or.inr ⟨by rfl, rfl⟩) (by assumption) ?_)
          | fail
        try simp only [Act.put, List.setIfInBounds_toArray, List.set_cons_zero, List.set_cons_succ]
        first
          | (refine wpAnyH_take (i := 16) (oi := { dst := some 86, op := Op.fieldAddr 34 (Operand.tmp 10) 2, type := 0, pos := "law.go:196", after := #[{ on := 15, ground := Ground.guard }], guard := some (15, false) }) (v := ?_) rfl (by kernel_rfl) (by kernel_rfl) (by kernel_rfl) (fun _ _ _ h => h) (Or.inl ⟨by rfl, ?hy⟩) (by assumption) ?_; case hy => ((intro w hSw; (try dsimp only at hSw); go_simp); (try with_reducible rfl)))
          | (refine wpAnyH_take (i := 16) (oi := { dst := some 86, op := Op.fieldAddr 34 (Operand.tmp 10) 2, type := 0, pos := "law.go:196", after := #[{ on := 15, ground := Ground.guard }], guard := some (15, false) }) (v := undef) rfl (by kernel_rfl) (by kernel_rfl) (by kernel_rfl) (fun _ _ _ h => h) (Or.inr ⟨by rfl, rfl⟩) (by assumption) ?_)
          | fail
        try simp only [Act.put, List.setIfInBounds_toArray, List.set_cons_zero, List.set_cons_succ]
        first
          | (refine wpAnyH_take (i := 17) (oi := { dst := some 87, op := Op.load 4 (Operand.tmp 86), type := 4, pos := "law.go:196", after := #[{ on := 16, ground := Ground.data }, { on := 15, ground := Ground.guard }], guard := some (15, false) }) (v := ?_) rfl (by kernel_rfl) (by kernel_rfl) (by kernel_rfl) (fun _ _ _ h => h) (Or.inl ⟨by rfl, ?hy⟩) (by assumption) ?_; case hy => ((intro w hSw; (try dsimp only at hSw); go_simp); (try with_reducible rfl)))
          | (refine wpAnyH_take (i := 17) (oi := { dst := some 87, op := Op.load 4 (Operand.tmp 86), type := 4, pos := "law.go:196", after := #[{ on := 16, ground := Ground.data }, { on := 15, ground := Ground.guard }], guard := some (15, false) }) (v := undef) rfl (by kernel_rfl) (by kernel_rfl) (by kernel_rfl) (fun _ _ _ h => h) (Or.inr ⟨by rfl, rfl⟩) (by assumption) ?_)
          | fail
        try simp only [Act.put, List.setIfInBounds_toArray, List.set_cons_zero, List.set_cons_succ]
        first
          | (refine wpAnyH_take (i := 18) (oi := { dst := some 88, op := Op.move (Operand.tmp 87), type := 4, pos := "law.go:196", after := #[{ on := 17, ground := Ground.data }, { on := 15, ground := Ground.chain }, { on := 15, ground := Ground.guard }], guard := some (15, false) }) (v := ?_) rfl (by kernel_rfl) (by kernel_rfl) (by kernel_rfl) (fun _ _ _ h => h) (Or.inl ⟨by rfl, ?hy⟩) (by assumption) ?_; case hy => ((intro w hSw; (try dsimp only at hSw); go_simp); (try with_reducible rfl)))
          | (refine wpAnyH_take (i := 18) (oi := { dst := some 88, op := Op.move (Operand.tmp 87), type := 4, pos := "law.go:196", after := #[{ on := 17, ground := Ground.data }, { on := 15, ground := Ground.chain }, { on := 15, ground := Ground.guard }], guard := some (15, false) }) (v := undef) rfl (by kernel_rfl) (by kernel_rfl) (by kernel_rfl) (fun _ _ _ h => h) (Or.inr ⟨by rfl, rfl⟩) (by assumption) ?_)
          | fail
        try simp only [Act.put, List.setIfInBounds_toArray, List.set_cons_zero, List.set_cons_succ]
        first
          | (refine wpAnyH_take (i := 19) (oi := { dst := some 89, op := Op.fieldAddr 34 (Operand.tmp 10) 1, type := 0, pos := "law.go:196", after := #[{ on := 18, ground := Ground.guard }], guard := some (18, true) }) (v := ?_) rfl (by kernel_rfl) (by kernel_rfl) (by kernel_rfl) (fun _ _ _ h => h) (Or.inl ⟨by rfl, ?hy⟩) (by assumption) ?_; case hy => ((intro w hSw; (try dsimp only at hSw); go_simp); (try with_reducible rfl)))
          | (refine wpAnyH_take (i := 19) (oi := { dst := some 89, op := Op.fieldAddr 34 (Operand.tmp 10) 1, type := 0, pos := "law.go:196", after := #[{ on := 18, ground := Ground.guard }], guard := some (18, true) }) (v := undef) rfl (by kernel_rfl) (by kernel_rfl) (by kernel_rfl) (fun _ _ _ h => h) (Or.inr ⟨by rfl, rfl⟩) (by assumption) ?_)
          | fail
        try simp only [Act.put, List.setIfInBounds_toArray, List.set_cons_zero, List.set_cons_succ]
        first
          | (refine wpAnyH_take (i := 20) (oi := { dst := some 90, op := Op.load 9 (Operand.tmp 89), type := 9, pos := "law.go:196", after := #[{ on := 19, ground := Ground.data }, { on := 18, ground := Ground.guard }], guard := some (18, true) }) (v := ?_) rfl (by kernel_rfl) (by kernel_rfl) (by kernel_rfl) (fun _ _ _ h => h) (Or.inl ⟨by rfl, ?hy⟩) (by assumption) ?_; case hy => ((intro w hSw; (try dsimp only at hSw); go_simp); (try with_reducible rfl)))
          | (refine wpAnyH_take (i := 20) (oi := { dst := some 90, op := Op.load 9 (Operand.tmp 89), type := 9, pos := "law.go:196", after := #[{ on := 19, ground := Ground.data }, { on := 18, ground := Ground.guard }], guard := some (18, true) }) (v := undef) rfl (by kernel_rfl) (by kernel_rfl) (by kernel_rfl) (fun _ _ _ h => h) (Or.inr ⟨by rfl, rfl⟩) (by assumption) ?_)
          | fail
        try simp only [Act.put, List.setIfInBounds_toArray, List.set_cons_zero, List.set_cons_succ]
        first
          | (refine wpAnyH_take (i := 21) (oi := { dst := some 91, op := Op.move (Operand.tmp 2), type := 23, pos := "law.go:196", after := #[{ on := 18, ground := Ground.guard }], guard := some (18, true) }) (v := ?_) rfl (by kernel_rfl) (by kernel_rfl) (by kernel_rfl) (fun _ _ _ h => h) (Or.inl ⟨by rfl, ?hy⟩) (by assumption) ?_; case hy => ((intro w hSw; (try dsimp only at hSw); go_simp); (try with_reducible rfl)))
          | (refine wpAnyH_take (i := 21) (oi := { dst := some 91, op := Op.move (Operand.tmp 2), type := 23, pos := "law.go:196", after := #[{ on := 18, ground := Ground.guard }], guard := some (18, true) }) (v := undef) rfl (by kernel_rfl) (by kernel_rfl) (by kernel_rfl) (fun _ _ _ h => h) (Or.inr ⟨by rfl, rfl⟩) (by assumption) ?_)
          | fail
        try simp only [Act.put, List.setIfInBounds_toArray, List.set_cons_zero, List.set_cons_succ]
        first
          | (refine wpAnyH_take (i := 22) (oi := { dst := some 92, op := Op.move (Operand.tmp 9), type := 3, pos := "law.go:196", after := #[{ on := 18, ground := Ground.guard }], guard := some (18, true) }) (v := ?_) rfl (by kernel_rfl) (by kernel_rfl) (by kernel_rfl) (fun _ _ _ h => h) (Or.inl ⟨by rfl, ?hy⟩) (by assumption) ?_; case hy => ((intro w hSw; (try dsimp only at hSw); go_simp); (try with_reducible rfl)))
          | (refine wpAnyH_take (i := 22) (oi := { dst := some 92, op := Op.move (Operand.tmp 9), type := 3, pos := "law.go:196", after := #[{ on := 18, ground := Ground.guard }], guard := some (18, true) }) (v := undef) rfl (by kernel_rfl) (by kernel_rfl) (by kernel_rfl) (fun _ _ _ h => h) (Or.inr ⟨by rfl, rfl⟩) (by assumption) ?_)
          | fail
        try simp only [Act.put, List.setIfInBounds_toArray, List.set_cons_zero, List.set_cons_succ]
        first
          | (refine wpAnyH_take (i := 23) (oi := { dst := some 93, op := Op.binOp BinOp.sub 3 (Operand.tmp 92) (Operand.const (Value.int IntKind.i64 1)) 3, type := 3, pos := "law.go:196", after := #[{ on := 22, ground := Ground.data }, { on := 18, ground := Ground.guard }], guard := some (18, true) }) (v := ?_) rfl (by kernel_rfl) (by kernel_rfl) (by kernel_rfl) (fun _ _ _ h => h) (Or.inl ⟨by rfl, ?hy⟩) (by assumption) ?_; case hy => ((intro w hSw; (try dsimp only at hSw); go_simp); (try with_reducible rfl)))
          | (refine wpAnyH_take (i := 23) (oi := { dst := some 93, op := Op.binOp BinOp.sub 3 (Operand.tmp 92) (Operand.const (Value.int IntKind.i64 1)) 3, type := 3, pos := "law.go:196", after := #[{ on := 22, ground := Ground.data }, { on := 18, ground := Ground.guard }], guard := some (18, true) }) (v := undef) rfl (by kernel_rfl) (by kernel_rfl) (by kernel_rfl) (fun _ _ _ h => h) (Or.inr ⟨by rfl, rfl⟩) (by assumption) ?_)
          | fail
        try simp only [Act.put, List.setIfInBounds_toArray, List.set_cons_zero, List.set_cons_succ]
        first
          | (refine wpAnyH_take (i := 24) (oi := { dst := some 94, op := Op.indexAddr 23 (Operand.tmp 91) (Operand.tmp 93), type := 0, pos := "law.go:196", after := #[{ on := 21, ground := Ground.data }, { on := 23, ground := Ground.data }, { on := 18, ground := Ground.guard }], guard := some (18, true) }) (v := ?_) rfl (by kernel_rfl) (by kernel_rfl) (by kernel_rfl) (fun _ _ _ h => h) (Or.inl ⟨by rfl, ?hy⟩) (by assumption) ?_; case hy => ((intro w hSw; (try dsimp only at hSw); go_simp); (try with_reducible rfl)))
          | (refine wpAnyH_take (i := 24) (oi := { dst := some 94, op := Op.indexAddr 23 (Operand.tmp 91) (Operand.tmp 93), type := 0, pos := "law.go:196", after := #[{ on := 21, ground := Ground.data }, { on := 23, ground := Ground.data }, { on := 18, ground := Ground.guard }], guard := some (18, true) }) (v := undef) rfl (by kernel_rfl) (by kernel_rfl) (by kernel_rfl) (fun _ _ _ h => h) (Or.inr ⟨by rfl, rfl⟩) (by assumption) ?_)
          | fail
        try simp only [Act.put, List.setIfInBounds_toArray, List.set_cons_zero, List.set_cons_succ]
        first
          | (refine wpAnyH_take (i := 25) (oi := { dst := some 95, op := Op.load 9 (Operand.tmp 94), type := 9, pos := "law.go:196", after := #[{ on := 24, ground := Ground.data }, { on := 18, ground := Ground.guard }], guard := some (18, true) }) (v := ?_) rfl (by kernel_rfl) (by kernel_rfl) (by kernel_rfl) (fun _ _ _ h => h) (Or.inl ⟨by rfl, ?hy⟩) (by assumption) ?_; case hy => ((intro w hSw; (try dsimp only at hSw); go_simp); (try with_reducible rfl)))
          | (refine wpAnyH_take (i := 25) (oi := { dst := some 95, op := Op.load 9 (Operand.tmp 94), type := 9, pos := "law.go:196", after := #[{ on := 24, ground := Ground.data }, { on := 18, ground := Ground.guard }], guard := some (18, true) }) (v := undef) rfl (by kernel_rfl) (by kernel_rfl) (by kernel_rfl) (fun _ _ _ h => h) (Or.inr ⟨by rfl, rfl⟩) (by assumption) ?_)
          | fail
        try simp only [Act.put, List.setIfInBounds_toArray, List.set_cons_zero, List.set_cons_succ]
        first
          | (refine wpAnyH_take (i := 26) (oi := { dst := some 96, op := Op.binOp BinOp.neq 9 (Operand.tmp 90) (Operand.tmp 95) 9, type := 4, pos := "law.go:196", after := #[{ on := 20, ground := Ground.data }, { on := 25, ground := Ground.data }, { on := 18, ground := Ground.guard }], guard := some (18, true) }) (v := ?_) rfl (by kernel_rfl) (by kernel_rfl) (by kernel_rfl) (fun _ _ _ h => h) (Or.inl ⟨by rfl, ?hy⟩) (by assumption) ?_; case hy => ((intro w hSw; (try dsimp only at hSw); go_simp); (try with_reducible rfl)))
          | (refine wpAnyH_take (i := 26) (oi := { dst := some 96, op := Op.binOp BinOp.neq 9 (Operand.tmp 90) (Operand.tmp 95) 9, type := 4, pos := "law.go:196", after := #[{ on := 20, ground := Ground.data }, { on := 25, ground := Ground.data }, { on := 18, ground := Ground.guard }], guard := some (18, true) }) (v := undef) rfl (by kernel_rfl) (by kernel_rfl) (by kernel_rfl) (fun _ _ _ h => h) (Or.inr ⟨by rfl, rfl⟩) (by assumption) ?_)
          | fail
        try simp only [Act.put, List.setIfInBounds_toArray, List.set_cons_zero, List.set_cons_succ]
        first
          | (refine wpAnyH_take (i := 27) (oi := { dst := some 97, op := Op.pick (Operand.tmp 88) (Operand.tmp 96) (Operand.const (Value.bool false)), type := 4, pos := "law.go:196", after := #[{ on := 18, ground := Ground.data }, { on := 26, ground := Ground.data }, { on := 15, ground := Ground.guard }], guard := some (15, false) }) (v := ?_) rfl (by kernel_rfl) (by kernel_rfl) (by kernel_rfl) (fun _ _ _ h => h) (Or.inl ⟨by rfl, ?hy⟩) (by assumption) ?_; case hy => ((intro w hSw; (try dsimp only at hSw); go_simp); (try with_reducible rfl)))
          | (refine wpAnyH_take (i := 27) (oi := { dst := some 97, op := Op.pick (Operand.tmp 88) (Operand.tmp 96) (Operand.const (Value.bool false)), type := 4, pos := "law.go:196", after := #[{ on := 18, ground := Ground.data }, { on := 26, ground := Ground.data }, { on := 15, ground := Ground.guard }], guard := some (15, false) }) (v := undef) rfl (by kernel_rfl) (by kernel_rfl) (by kernel_rfl) (fun _ _ _ h => h) (Or.inr ⟨by rfl, rfl⟩) (by assumption) ?_)
          | fail
        try simp only [Act.put, List.setIfInBounds_toArray, List.set_cons_zero, List.set_cons_succ]
        first
          | (refine wpAnyH_take (i := 28) (oi := { dst := some 98, op := Op.pick (Operand.tmp 85) (Operand.const (Value.bool true)) (Operand.tmp 97), type := 4, pos := "law.go:196", after := #[{ on := 15, ground := Ground.data }, { on := 27, ground := Ground.data }], guard := none }) (v := ?_) rfl (by kernel_rfl) (by kernel_rfl) (by kernel_rfl) (fun _ _ _ h => h) (Or.inl ⟨by rfl, ?hy⟩) (by assumption) ?_; case hy => ((intro w hSw; (try dsimp only at hSw); go_simp); (try with_reducible rfl)))
          | (refine wpAnyH_take (i := 28) (oi := { dst := some 98, op := Op.pick (Operand.tmp 85) (Operand.const (Value.bool true)) (Operand.tmp 97), type := 4, pos := "law.go:196", after := #[{ on := 15, ground := Ground.data }, { on := 27, ground := Ground.data }], guard := none }) (v := undef) rfl (by kernel_rfl) (by kernel_rfl) (by kernel_rfl) (fun _ _ _ h => h) (Or.inr ⟨by rfl, rfl⟩) (by assumption) ?_)
          | fail
        try simp only [Act.put, List.setIfInBounds_toArray, List.set_cons_zero, List.set_cons_succ]
        first
          | (refine wpAnyH_take (i := 29) (oi := { dst := some 99, op := Op.move (Operand.tmp 98), type := 4, pos := "law.go:196", after := #[{ on := 28, ground := Ground.data }, { on := 18, ground := Ground.chain }], guard := none }) (v := ?_) rfl (by kernel_rfl) (by kernel_rfl) (by kernel_rfl) (fun _ _ _ h => h) (Or.inl ⟨by rfl, ?hy⟩) (by assumption) ?_; case hy => ((intro w hSw; (try dsimp only at hSw); go_simp); (try with_reducible rfl)))
          | (refine wpAnyH_take (i := 29) (oi := { dst := some 99, op := Op.move (Operand.tmp 98), type := 4, pos := "law.go:196", after := #[{ on := 28, ground := Ground.data }, { on := 18, ground := Ground.chain }], guard := none }) (v := undef) rfl (by kernel_rfl) (by kernel_rfl) (by kernel_rfl) (fun _ _ _ h => h) (Or.inr ⟨by rfl, rfl⟩) (by assumption) ?_)
          | fail
        try simp only [Act.put, List.setIfInBounds_toArray, List.set_cons_zero, List.set_cons_succ]
        first
          | (refine wpAnyH_take (i := 30) (oi := { dst := some 100, op := Op.move (Operand.tmp 7), type := 25, pos := "law.go:196", after := #[{ on := 29, ground := Ground.guard }], guard := some (29, false) }) (v := ?_) rfl (by kernel_rfl) (by kernel_rfl) (by kernel_rfl) (fun _ _ _ h => h) (Or.inl ⟨by rfl, ?hy⟩) (by assumption) ?_; case hy => ((intro w hSw; (try dsimp only at hSw); go_simp); (try with_reducible rfl)))
          | (refine wpAnyH_take (i := 30) (oi := { dst := some 100, op := Op.move (Operand.tmp 7), type := 25, pos := "law.go:196", after := #[{ on := 29, ground := Ground.guard }], guard := some (29, false) }) (v := undef) rfl (by kernel_rfl) (by kernel_rfl) (by kernel_rfl) (fun _ _ _ h => h) (Or.inr ⟨by rfl, rfl⟩) (by assumption) ?_)
          | fail
        try simp only [Act.put, List.setIfInBounds_toArray, List.set_cons_zero, List.set_cons_succ]
        first
          | (refine wpAnyH_take (i := 32) (oi := { dst := some 102, op := Op.move (Operand.tmp 2), type := 23, pos := "law.go:196", after := #[{ on := 29, ground := Ground.guard }], guard := some (29, false) }) (v := ?_) rfl (by kernel_rfl) (by kernel_rfl) (by kernel_rfl) (fun _ _ _ h => h) (Or.inl ⟨by rfl, ?hy⟩) (by assumption) ?_; case hy => ((intro w hSw; (try dsimp only at hSw); go_simp); (try with_reducible rfl)))
          | (refine wpAnyH_take (i := 32) (oi := { dst := some 102, op := Op.move (Operand.tmp 2), type := 23, pos := "law.go:196", after := #[{ on := 29, ground := Ground.guard }], guard := some (29, false) }) (v := undef) rfl (by kernel_rfl) (by kernel_rfl) (by kernel_rfl) (fun _ _ _ h => h) (Or.inr ⟨by rfl, rfl⟩) (by assumption) ?_)
          | fail
        try simp only [Act.put, List.setIfInBounds_toArray, List.set_cons_zero, List.set_cons_succ]
        first
          | (refine wpAnyH_take (i := 33) (oi := { dst := some 103, op := Op.move (Operand.tmp 9), type := 3, pos := "law.go:196", after := #[{ on := 29, ground := Ground.guard }], guard := some (29, false) }) (v := ?_) rfl (by kernel_rfl) (by kernel_rfl) (by kernel_rfl) (fun _ _ _ h => h) (Or.inl ⟨by rfl, ?hy⟩) (by assumption) ?_; case hy => ((intro w hSw; (try dsimp only at hSw); go_simp); (try with_reducible rfl)))
          | (refine wpAnyH_take (i := 33) (oi := { dst := some 103, op := Op.move (Operand.tmp 9), type := 3, pos := "law.go:196", after := #[{ on := 29, ground := Ground.guard }], guard := some (29, false) }) (v := undef) rfl (by kernel_rfl) (by kernel_rfl) (by kernel_rfl) (fun _ _ _ h => h) (Or.inr ⟨by rfl, rfl⟩) (by assumption) ?_)
          | fail
        try simp only [Act.put, List.setIfInBounds_toArray, List.set_cons_zero, List.set_cons_succ]
        first
          | (refine wpAnyH_take (i := 34) (oi := { dst := some 104, op := Op.indexAddr 23 (Operand.tmp 102) (Operand.tmp 103), type := 0, pos := "law.go:196", after := #[{ on := 32, ground := Ground.data }, { on := 33, ground := Ground.data }, { on := 29, ground := Ground.guard }], guard := some (29, false) }) (v := ?_) rfl (by kernel_rfl) (by kernel_rfl) (by kernel_rfl) (fun _ _ _ h => h) (Or.inl ⟨by rfl, ?hy⟩) (by assumption) ?_; case hy => ((intro w hSw; (try dsimp only at hSw); go_simp); (try with_reducible rfl)))
          | (refine wpAnyH_take (i := 34) (oi := { dst := some 104, op := Op.indexAddr 23 (Operand.tmp 102) (Operand.tmp 103), type := 0, pos := "law.go:196", after := #[{ on := 32, ground := Ground.data }, { on := 33, ground := Ground.data }, { on := 29, ground := Ground.guard }], guard := some (29, false) }) (v := undef) rfl (by kernel_rfl) (by kernel_rfl) (by kernel_rfl) (fun _ _ _ h => h) (Or.inr ⟨by rfl, rfl⟩) (by assumption) ?_)
          | fail
        try simp only [Act.put, List.setIfInBounds_toArray, List.set_cons_zero, List.set_cons_succ]
        first
          | (refine wpAnyH_take (i := 35) (oi := { dst := some 105, op := Op.load 9 (Operand.tmp 104), type := 9, pos := "law.go:196", after := #[{ on := 34, ground := Ground.data }, { on := 29, ground := Ground.guard }], guard := some (29, false) }) (v := ?_) rfl (by kernel_rfl) (by kernel_rfl) (by kernel_rfl) (fun _ _ _ h => h) (Or.inl ⟨by rfl, ?hy⟩) (by assumption) ?_; case hy => ((intro w hSw; (try dsimp only at hSw); go_simp); (try with_reducible rfl)))
          | (refine wpAnyH_take (i := 35) (oi := { dst := some 105, op := Op.load 9 (Operand.tmp 104), type := 9, pos := "law.go:196", after := #[{ on := 34, ground := Ground.data }, { on := 29, ground := Ground.guard }], guard := some (29, false) }) (v := undef) rfl (by kernel_rfl) (by kernel_rfl) (by kernel_rfl) (fun _ _ _ h => h) (Or.inr ⟨by rfl, rfl⟩) (by assumption) ?_)
          | fail
        try simp only [Act.put, List.setIfInBounds_toArray, List.set_cons_zero, List.set_cons_succ]
        refine wpAnyH_ready (rs := [31, 36]) (by kernel_rfl) (by simp) ?_
        refine AllReadyH.cons (o := { dst := some 101, op := Op.call { callee := Callee.value (Operand.func 14), args := #[Operand.tmp 100], argTypes := #[25] }, type := 23, pos := "law.go:196", after := #[{ on := 30, ground := Ground.data }, { on := 29, ground := Ground.chain }, { on := 29, ground := Ground.guard }], guard := some (29, false) }) rfl (fun K hK => ?_) ?_
        · go_simp
          go_wp2_with (go_at_call 14; (with_reducible refine (hKk.out _ _ (Holds.p1 h6d.out)).mono ?_); rintro r w13 ⟨ao, cap, rfl, h13⟩; have h13 := hide h13)
          refine hK.out _ _ ?_ (fun hHeld2 => ?_)
          · exact hS.out _ _ h13.out.toKeep (Holds.p2 h13.out)
          clear hK K
          try simp only [Act.put, List.setIfInBounds_toArray, List.set_cons_zero, List.set_cons_succ]
          refine wpAnyH_ready (rs := [36]) (by kernel_rfl) (by simp) ?_
          refine AllReadyH.cons (o := { dst := some 106, op := Op.buildSlice 23 1 #[(0, Operand.tmp 105)], type := 23, pos := "law.go:196", after := #[{ on := 35, ground := Ground.data }, { on := 29, ground := Ground.guard }], guard := some (29, false) }) rfl (fun K hK => ?_) ?_
          · go_simp
            have h14 := hide (h13.out.alloc (o := .cells #[.string key] 9))
            refine hK.out _ _ ?_ (fun hHeld2 => ?_)
            · exact hS.out _ _ h14.out.toKeep (Holds.p3 h14.out)
            clear hK K
            try simp only [Act.put, List.setIfInBounds_toArray, List.set_cons_zero, List.set_cons_succ]
            refine wpAnyH_ready (rs := [37]) (by kernel_rfl) (by simp) ?_
            have ra := hide (Holds.strsAt (Holds.p1 h14.out))
            have rb : Hide (RowAt _ (.slice (some ⟨w13.heap.size, 0, none⟩) 1 1) (strs [key])) := ⟨Holds.strsAt (Holds.one h14.out)⟩
            refine AllReadyH.cons (o := { dst := some 107, op := Op.call { callee := Callee.value (Operand.func 20), args := #[Operand.tmp 101, Operand.tmp 106], argTypes := #[23, 23] }, type := 4, pos := "law.go:196", after := #[{ on := 31, ground := Ground.data }, { on := 36, ground := Ground.data }, { on := 31, ground := Ground.chain }, { on := 29, ground := Ground.guard }], guard := some (29, false) }) rfl (fun K hK => ?_) ?_
            · go_simp
              go_wp2_with (go_at_call 20; (with_reducible refine (hSm.out _ _ _ ra.out rb.out).mono ?_); rintro r w15 ⟨rfl, dn, rfl⟩; have h15 := hide (h14.out.drewN (n := dn)))
              refine hK.out _ _ ?_ (fun hHeld2 => ?_)
              · exact hS.out _ _ h15.out.toKeep (Holds.p3 h15.out)
              clear hK K
              try simp only [Act.put, List.setIfInBounds_toArray, List.set_cons_zero, List.set_cons_succ]
              first
                | (refine wpAnyH_take (i := 38) (oi := { dst := some 108, op := Op.unOp UnOp.not 4 (Operand.tmp 107), type := 4, pos := "law.go:196", after := #[{ on := 37, ground := Ground.data }, { on := 29, ground := Ground.guard }], guard := some (29, false) }) (v := ?_) rfl (by kernel_rfl) (by kernel_rfl) (by kernel_rfl) (fun _ _ _ h => h) (Or.inl ⟨by rfl, ?hy⟩) (by assumption) ?_; case hy => ((intro w hSw; (try dsimp only at hSw); go_simp); (try with_reducible rfl)))
                | (refine wpAnyH_take (i := 38) (oi := { dst := some 108, op := Op.unOp UnOp.not 4 (Operand.tmp 107), type := 4, pos := "law.go:196", after := #[{ on := 37, ground := Ground.data }, { on := 29, ground := Ground.guard }], guard := some (29, false) }) (v := undef) rfl (by kernel_rfl) (by kernel_rfl) (by kernel_rfl) (fun _ _ _ h => h) (Or.inr ⟨by rfl, rfl⟩) (by assumption) ?_)
                | fail
              try simp only [Act.put, List.setIfInBounds_toArray, List.set_cons_zero, List.set_cons_succ]
              first
                | (refine wpAnyH_take (i := 39) (oi := { dst := some 109, op := Op.pick (Operand.tmp 99) (Operand.const (Value.bool true)) (Operand.tmp 108), type := 4, pos := "law.go:196", after := #[{ on := 29, ground := Ground.data }, { on := 38, ground := Ground.data }], guard := none }) (v := ?_) rfl (by kernel_rfl) (by kernel_rfl) (by kernel_rfl) (fun _ _ _ h => h) (Or.inl ⟨by rfl, ?hy⟩) (by assumption) ?_; case hy => ((intro w hSw; (try dsimp only at hSw); go_simp); (try with_reducible rfl)))
                | (refine wpAnyH_take (i := 39) (oi := { dst := some 109, op := Op.pick (Operand.tmp 99) (Operand.const (Value.bool true)) (Operand.tmp 108), type := 4, pos := "law.go:196", after := #[{ on := 29, ground := Ground.data }, { on := 38, ground := Ground.data }], guard := none }) (v := undef) rfl (by kernel_rfl) (by kernel_rfl) (by kernel_rfl) (fun _ _ _ h => h) (Or.inr ⟨by rfl, rfl⟩) (by assumption) ?_)
                | fail
              try simp only [Act.put, List.setIfInBounds_toArray, List.set_cons_zero, List.set_cons_succ]
              refine wpAnyH_done (by kernel_rfl) ?_ _
              clear hHeld hHeld2
              go_wp2; (go_roundg (n - (i + 1))); (case measure => (rw [← hci.out]; omega)); (case rel => exact ⟨i + 1, y, u, ⟨rfl⟩, by omega, rfl, hIy, h15.out.drop.drop.p1.drop⟩)
            exact AllReadyH.nil
          exact AllReadyH.nil
        refine AllReadyH.cons (o := { dst := some 106, op := Op.buildSlice 23 1 #[(0, Operand.tmp 105)], type := 23, pos := "law.go:196", after := #[{ on := 35, ground := Ground.data }, { on := 29, ground := Ground.guard }], guard := some (29, false) }) rfl (fun K hK => ?_) ?_
        · go_simp
          have h14 := hide ((hQ.out.alloc (o := .cells #[.string key] 9)).drew)
          refine hK.out _ _ ?_ (fun hHeld2 => ?_)
          · exact hS.out _ _ h14.out.toKeep (Holds.p1 h14.out)
          clear hK K
          try simp only [Act.put, List.setIfInBounds_toArray, List.set_cons_zero, List.set_cons_succ]
          refine wpAnyH_ready (rs := [31]) (by kernel_rfl) (by simp) ?_
          refine AllReadyH.cons (o := { dst := some 101, op := Op.call { callee := Callee.value (Operand.func 14), args := #[Operand.tmp 100], argTypes := #[25] }, type := 23, pos := "law.go:196", after := #[{ on := 30, ground := Ground.data }, { on := 29, ground := Ground.chain }, { on := 29, ground := Ground.guard }], guard := some (29, false) }) rfl (fun K hK => ?_) ?_
          · go_simp
            go_wp2_with (go_at_call 14; (with_reducible refine (hKk.out _ _ (Holds.p2 h14.out)).mono ?_); rintro r w13 ⟨ao, cap, rfl, h13⟩; have h13 := hide h13)
            refine hK.out _ _ ?_ (fun hHeld2 => ?_)
            · exact hS.out _ _ h13.out.toKeep (Holds.p3 h13.out)
            clear hK K
            try simp only [Act.put, List.setIfInBounds_toArray, List.set_cons_zero, List.set_cons_succ]
            refine wpAnyH_ready (rs := [37]) (by kernel_rfl) (by simp) ?_
            have ra := hide (Holds.strsAt h13.out)
            have rb : Hide (RowAt _ (.slice (some ⟨uq.world.heap.size, 0, none⟩) 1 1) (strs [key])) := ⟨Holds.strsAt (Holds.one (Holds.p2 h13.out))⟩
            refine AllReadyH.cons (o := { dst := some 107, op := Op.call { callee := Callee.value (Operand.func 20), args := #[Operand.tmp 101, Operand.tmp 106], argTypes := #[23, 23] }, type := 4, pos := "law.go:196", after := #[{ on := 31, ground := Ground.data }, { on := 36, ground := Ground.data }, { on := 31, ground := Ground.chain }, { on := 29, ground := Ground.guard }], guard := some (29, false) }) rfl (fun K hK => ?_) ?_
            · go_simp
              go_wp2_with (go_at_call 20; (with_reducible refine (hSm.out _ _ _ ra.out rb.out).mono ?_); rintro r w15 ⟨rfl, dn, rfl⟩; have h15 := hide (h13.out.drewN (n := dn)).p2)
              refine hK.out _ _ ?_ (fun hHeld2 => ?_)
              · exact hS.out _ _ h15.out.toKeep (Holds.p3 h15.out)
              clear hK K
              try simp only [Act.put, List.setIfInBounds_toArray, List.set_cons_zero, List.set_cons_succ]
              first
                | (refine wpAnyH_take (i := 38) (oi := { dst := some 108, op := Op.unOp UnOp.not 4 (Operand.tmp 107), type := 4, pos := "law.go:196", after := #[{ on := 37, ground := Ground.data }, { on := 29, ground := Ground.guard }], guard := some (29, false) }) (v := ?_) rfl (by kernel_rfl) (by kernel_rfl) (by kernel_rfl) (fun _ _ _ h => h) (Or.inl ⟨by rfl, ?hy⟩) (by assumption) ?_; case hy => ((intro w hSw; (try dsimp only at hSw); go_simp); (try with_reducible rfl)))
                | (refine wpAnyH_take (i := 38) (oi := { dst := some 108, op := Op.unOp UnOp.not 4 (Operand.tmp 107), type := 4, pos := "law.go:196", after := #[{ on := 37, ground := Ground.data }, { on := 29, ground := Ground.guard }], guard := some (29, false) }) (v := undef) rfl (by kernel_rfl) (by kernel_rfl) (by kernel_rfl) (fun _ _ _ h => h) (Or.inr ⟨by rfl, rfl⟩) (by assumption) ?_)
                | fail
              try simp only [Act.put, List.setIfInBounds_toArray, List.set_cons_zero, List.set_cons_succ]
              first
                | (refine wpAnyH_take (i := 39) (oi := { dst := some 109, op := Op.pick (Operand.tmp 99) (Operand.const (Value.bool true)) (Operand.tmp 108), type := 4, pos := "law.go:196", after := #[{ on := 29, ground := Ground.data }, { on := 38, ground := Ground.data }], guard := none }) (v := ?_) rfl (by kernel_rfl) (by kernel_rfl) (by kernel_rfl) (fun _ _ _ h => h) (Or.inl ⟨by rfl, ?hy⟩) (by assumption) ?_; case hy => ((intro w hSw; (try dsimp only at hSw); go_simp); (try with_reducible rfl)))
                | (refine wpAnyH_take (i := 39) (oi := { dst := some 109, op := Op.pick (Operand.tmp 99) (Operand.const (Value.bool true)) (Operand.tmp 108), type := 4, pos := "law.go:196", after := #[{ on := 29, ground := Ground.data }, { on := 38, ground := Ground.data }], guard := none }) (v := undef) rfl (by kernel_rfl) (by kernel_rfl) (by kernel_rfl) (fun _ _ _ h => h) (Or.inr ⟨by rfl, rfl⟩) (by assumption) ?_)
                | fail
              try simp only [Act.put, List.setIfInBounds_toArray, List.set_cons_zero, List.set_cons_succ]
              refine wpAnyH_done (by kernel_rfl) ?_ _
              clear hHeld hHeld2
              go_wp2; (go_roundg (n - (i + 1))); (case measure => (rw [← hci.out]; omega)); (case rel => exact ⟨i + 1, y, u, ⟨rfl⟩, by omega, rfl, hIy, h15.out.drop.drop.p1.drop⟩)
            exact AllReadyH.nil
          exact AllReadyH.nil
        exact AllReadyH.nil
      | hit h0 hp =>
        have hi0 : decide ((0 : Int) < i) = true := decide_eq_true (by omega)
        have hi1 : decide (0 < i) = true := decide_eq_true (by omega)
        obtain ⟨p, hpi⟩ : ∃ p, i = p + 1 := ⟨i - 1, by omega⟩
        have hpn : (p : Int) < n := by omega
        have hnl2 := hnl.out
        have e5 : IntKind.i64.wrap ((i : Int) - 1) = (p : Int) := by rw [IntWalk.i64_in _ (by omega)]; omega
        have hpc : keys[p]? = some key := by rw [← hp, hpi]; rfl
        obtain ⟨bk2, ok2, hak2, cP⟩ := RowR.strCell hk.out hpc
        obtain ⟨rfl, rfl⟩ : bk = bk2 ∧ ok = ok2 := by cases hak2; exact ⟨rfl, rfl⟩
        replace cP := hide cP
        have c6 := h6.toKeep.cell cW.out
        have c7 := h6.toKeep.cell cP.out
        have cx6 : ∀ q : KeptOf W6, q.world.cell? ⟨bk, ok + i, none⟩ = some (.string key) := fun q => q.keep.cell c6
        have cx7 : ∀ q : KeptOf W6, q.world.cell? ⟨bk, ok + p, none⟩ = some (.string key) := fun q => q.keep.cell c7
        clear hak2 hpc hpi hp h0 hnl2 c6 c7
        replace h6 := hide h6
        go_wp2
        (refine wp_region_kept (by kernel_rfl) (by kernel_rfl) ?_; (repeat (go_big_quiet_step (fail))); refine wpQuiet_nil ?_; intro _ hw'; obtain ⟨uq, hw''⟩ := hw'; subst hw'')
        clear cx6 cx7
        have hQ := hide (uq.holds h6.out)
        have h6d := hide hQ.out.drew
        have hS := hide (fun (w' : World) (L : List SProp) (k : Keep W w') (h : Holds W w' (pts rs (.cells #[.bool true, .string ⟨#[]⟩, .bool false] 34) :: L)) => And.intro (Holds.cell (off := 0) h rfl) (And.intro (Holds.cell (off := 1) h rfl) (And.intro (Holds.cell (off := 2) h rfl) (And.intro (k.cell cW.out) (k.cell cP.out)))))
        go_upto_region 13 with fail
        refine wp_region_held_drew (S := fun w' => w'.cell? ⟨rs, 0, none⟩ = some (.bool true) ∧ w'.cell? ⟨rs, 1, none⟩ = some (.string ⟨#[]⟩) ∧ w'.cell? ⟨rs, 2, none⟩ = some (.bool false) ∧ w'.cell? ⟨bk, ok + i, none⟩ = some (.string key) ∧ w'.cell? ⟨bk, ok + p, none⟩ = some (.string key)) (by kernel_rfl) (hS.out _ _ h6d.out.toKeep h6d.out) (fun hHeld => ?_)
        first
          | (refine wpAnyH_take (i := 0) (oi := { dst := some 70, op := Op.fieldAddr 34 (Operand.tmp 10) 0, type := 0, pos := "law.go:196", after := #[], guard := none }) (v := ?_) rfl (by kernel_rfl) (by kernel_rfl) (by kernel_rfl) (fun _ _ _ h => h) (Or.inl ⟨by rfl, ?hy⟩) (by assumption) ?_; case hy => ((intro w hSw; (try dsimp only at hSw); go_simp); (try with_reducible rfl)))
          | (refine wpAnyH_take (i := 0) (oi := { dst := some 70, op := Op.fieldAddr 34 (Operand.tmp 10) 0, type := 0, pos := "law.go:196", after := #[], guard := none }) (v := undef) rfl (by kernel_rfl) (by kernel_rfl) (by kernel_rfl) (fun _ _ _ h => h) (Or.inr ⟨by rfl, rfl⟩) (by assumption) ?_)
          | fail
        try simp only [Act.put, List.setIfInBounds_toArray, List.set_cons_zero, List.set_cons_succ]
        first
          | (refine wpAnyH_take (i := 1) (oi := { dst := some 71, op := Op.load 4 (Operand.tmp 70), type := 4, pos := "law.go:196", after := #[{ on := 0, ground := Ground.data }], guard := none }) (v := ?_) rfl (by kernel_rfl) (by kernel_rfl) (by kernel_rfl) (fun _ _ _ h => h) (Or.inl ⟨by rfl, ?hy⟩) (by assumption) ?_; case hy => ((intro w hSw; (try dsimp only at hSw); go_simp); (try with_reducible rfl)))
          | (refine wpAnyH_take (i := 1) (oi := { dst := some 71, op := Op.load 4 (Operand.tmp 70), type := 4, pos := "law.go:196", after := #[{ on := 0, ground := Ground.data }], guard := none }) (v := undef) rfl (by kernel_rfl) (by kernel_rfl) (by kernel_rfl) (fun _ _ _ h => h) (Or.inr ⟨by rfl, rfl⟩) (by assumption) ?_)
          | fail
        try simp only [Act.put, List.setIfInBounds_toArray, List.set_cons_zero, List.set_cons_succ]
        first
          | (refine wpAnyH_take (i := 2) (oi := { dst := some 72, op := Op.move (Operand.tmp 11), type := 4, pos := "law.go:196", after := #[], guard := none }) (v := ?_) rfl (by kernel_rfl) (by kernel_rfl) (by kernel_rfl) (fun _ _ _ h => h) (Or.inl ⟨by rfl, ?hy⟩) (by assumption) ?_; case hy => ((intro w hSw; (try dsimp only at hSw); go_simp); (try with_reducible rfl)))
          | (refine wpAnyH_take (i := 2) (oi := { dst := some 72, op := Op.move (Operand.tmp 11), type := 4, pos := "law.go:196", after := #[], guard := none }) (v := undef) rfl (by kernel_rfl) (by kernel_rfl) (by kernel_rfl) (fun _ _ _ h => h) (Or.inr ⟨by rfl, rfl⟩) (by assumption) ?_)
          | fail
        try simp only [Act.put, List.setIfInBounds_toArray, List.set_cons_zero, List.set_cons_succ]
        first
          | (refine wpAnyH_take (i := 3) (oi := { dst := some 73, op := Op.binOp BinOp.neq 4 (Operand.tmp 71) (Operand.tmp 72) 4, type := 4, pos := "law.go:196", after := #[{ on := 1, ground := Ground.data }, { on := 2, ground := Ground.data }], guard := none }) (v := ?_) rfl (by kernel_rfl) (by kernel_rfl) (by kernel_rfl) (fun _ _ _ h => h) (Or.inl ⟨by rfl, ?hy⟩) (by assumption) ?_; case hy => ((intro w hSw; (try dsimp only at hSw); go_simp); (try with_reducible rfl)))
          | (refine wpAnyH_take (i := 3) (oi := { dst := some 73, op := Op.binOp BinOp.neq 4 (Operand.tmp 71) (Operand.tmp 72) 4, type := 4, pos := "law.go:196", after := #[{ on := 1, ground := Ground.data }, { on := 2, ground := Ground.data }], guard := none }) (v := undef) rfl (by kernel_rfl) (by kernel_rfl) (by kernel_rfl) (fun _ _ _ h => h) (Or.inr ⟨by rfl, rfl⟩) (by assumption) ?_)
          | fail
        try simp only [Act.put, List.setIfInBounds_toArray, List.set_cons_zero, List.set_cons_succ]
        first
          | (refine wpAnyH_take (i := 4) (oi := { dst := some 74, op := Op.move (Operand.tmp 73), type := 4, pos := "law.go:196", after := #[{ on := 3, ground := Ground.data }], guard := none }) (v := ?_) rfl (by kernel_rfl) (by kernel_rfl) (by kernel_rfl) (fun _ _ _ h => h) (Or.inl ⟨by rfl, ?hy⟩) (by assumption) ?_; case hy => ((intro w hSw; (try dsimp only at hSw); go_simp); (try with_reducible rfl)))
          | (refine wpAnyH_take (i := 4) (oi := { dst := some 74, op := Op.move (Operand.tmp 73), type := 4, pos := "law.go:196", after := #[{ on := 3, ground := Ground.data }], guard := none }) (v := undef) rfl (by kernel_rfl) (by kernel_rfl) (by kernel_rfl) (fun _ _ _ h => h) (Or.inr ⟨by rfl, rfl⟩) (by assumption) ?_)
          | fail
        try simp only [Act.put, List.setIfInBounds_toArray, List.set_cons_zero, List.set_cons_succ]
        first
          | (refine wpAnyH_take (i := 5) (oi := { dst := some 75, op := Op.fieldAddr 34 (Operand.tmp 10) 2, type := 0, pos := "law.go:196", after := #[{ on := 4, ground := Ground.guard }], guard := some (4, false) }) (v := ?_) rfl (by kernel_rfl) (by kernel_rfl) (by kernel_rfl) (fun _ _ _ h => h) (Or.inl ⟨by rfl, ?hy⟩) (by assumption) ?_; case hy => ((intro w hSw; (try dsimp only at hSw); go_simp); (try with_reducible rfl)))
          | (refine wpAnyH_take (i := 5) (oi := { dst := some 75, op := Op.fieldAddr 34 (Operand.tmp 10) 2, type := 0, pos := "law.go:196", after := #[{ on := 4, ground := Ground.guard }], guard := some (4, false) }) (v := undef) rfl (by kernel_rfl) (by kernel_rfl) (by kernel_rfl) (fun _ _ _ h => h) (Or.inr ⟨by rfl, rfl⟩) (by assumption) ?_)
          | fail
        try simp only [Act.put, List.setIfInBounds_toArray, List.set_cons_zero, List.set_cons_succ]
        first
          | (refine wpAnyH_take (i := 6) (oi := { dst := some 76, op := Op.load 4 (Operand.tmp 75), type := 4, pos := "law.go:196", after := #[{ on := 5, ground := Ground.data }, { on := 4, ground := Ground.guard }], guard := some (4, false) }) (v := ?_) rfl (by kernel_rfl) (by kernel_rfl) (by kernel_rfl) (fun _ _ _ h => h) (Or.inl ⟨by rfl, ?hy⟩) (by assumption) ?_; case hy => ((intro w hSw; (try dsimp only at hSw); go_simp); (try with_reducible rfl)))
          | (refine wpAnyH_take (i := 6) (oi := { dst := some 76, op := Op.load 4 (Operand.tmp 75), type := 4, pos := "law.go:196", after := #[{ on := 5, ground := Ground.data }, { on := 4, ground := Ground.guard }], guard := some (4, false) }) (v := undef) rfl (by kernel_rfl) (by kernel_rfl) (by kernel_rfl) (fun _ _ _ h => h) (Or.inr ⟨by rfl, rfl⟩) (by assumption) ?_)
          | fail
        try simp only [Act.put, List.setIfInBounds_toArray, List.set_cons_zero, List.set_cons_succ]
        first
          | (refine wpAnyH_take (i := 7) (oi := { dst := some 77, op := Op.move (Operand.tmp 9), type := 3, pos := "law.go:196", after := #[{ on := 4, ground := Ground.guard }], guard := some (4, false) }) (v := ?_) rfl (by kernel_rfl) (by kernel_rfl) (by kernel_rfl) (fun _ _ _ h => h) (Or.inl ⟨by rfl, ?hy⟩) (by assumption) ?_; case hy => ((intro w hSw; (try dsimp only at hSw); go_simp); (try with_reducible rfl)))
          | (refine wpAnyH_take (i := 7) (oi := { dst := some 77, op := Op.move (Operand.tmp 9), type := 3, pos := "law.go:196", after := #[{ on := 4, ground := Ground.guard }], guard := some (4, false) }) (v := undef) rfl (by kernel_rfl) (by kernel_rfl) (by kernel_rfl) (fun _ _ _ h => h) (Or.inr ⟨by rfl, rfl⟩) (by assumption) ?_)
          | fail
        try simp only [Act.put, List.setIfInBounds_toArray, List.set_cons_zero, List.set_cons_succ]
        first
          | (refine wpAnyH_take (i := 8) (oi := { dst := some 78, op := Op.binOp BinOp.gtr 3 (Operand.tmp 77) (Operand.const (Value.int IntKind.i64 0)) 3, type := 4, pos := "law.go:196", after := #[{ on := 7, ground := Ground.data }, { on := 4, ground := Ground.guard }], guard := some (4, false) }) (v := ?_) rfl (by kernel_rfl) (by kernel_rfl) (by kernel_rfl) (fun _ _ _ h => h) (Or.inl ⟨by rfl, ?hy⟩) (by assumption) ?_; case hy => ((intro w hSw; (try dsimp only at hSw); go_simp); (try with_reducible rfl)))
          | (refine wpAnyH_take (i := 8) (oi := { dst := some 78, op := Op.binOp BinOp.gtr 3 (Operand.tmp 77) (Operand.const (Value.int IntKind.i64 0)) 3, type := 4, pos := "law.go:196", after := #[{ on := 7, ground := Ground.data }, { on := 4, ground := Ground.guard }], guard := some (4, false) }) (v := undef) rfl (by kernel_rfl) (by kernel_rfl) (by kernel_rfl) (fun _ _ _ h => h) (Or.inr ⟨by rfl, rfl⟩) (by assumption) ?_)
          | fail
        try simp only [Act.put, List.setIfInBounds_toArray, List.set_cons_zero, List.set_cons_succ]
        first
          | (refine wpAnyH_take (i := 9) (oi := { dst := some 79, op := Op.move (Operand.tmp 78), type := 4, pos := "law.go:196", after := #[{ on := 8, ground := Ground.data }, { on := 4, ground := Ground.chain }, { on := 4, ground := Ground.guard }], guard := some (4, false) }) (v := ?_) rfl (by kernel_rfl) (by kernel_rfl) (by kernel_rfl) (fun _ _ _ h => h) (Or.inl ⟨by rfl, ?hy⟩) (by assumption) ?_; case hy => ((intro w hSw; (try dsimp only at hSw); go_simp); (try with_reducible rfl)))
          | (refine wpAnyH_take (i := 9) (oi := { dst := some 79, op := Op.move (Operand.tmp 78), type := 4, pos := "law.go:196", after := #[{ on := 8, ground := Ground.data }, { on := 4, ground := Ground.chain }, { on := 4, ground := Ground.guard }], guard := some (4, false) }) (v := undef) rfl (by kernel_rfl) (by kernel_rfl) (by kernel_rfl) (fun _ _ _ h => h) (Or.inr ⟨by rfl, rfl⟩) (by assumption) ?_)
          | fail
        try simp only [Act.put, List.setIfInBounds_toArray, List.set_cons_zero, List.set_cons_succ]
        first
          | (refine wpAnyH_take (i := 10) (oi := { dst := some 80, op := Op.move (Operand.tmp 11), type := 4, pos := "law.go:196", after := #[{ on := 9, ground := Ground.guard }], guard := some (9, true) }) (v := ?_) rfl (by kernel_rfl) (by kernel_rfl) (by kernel_rfl) (fun _ _ _ h => h) (Or.inl ⟨by rfl, ?hy⟩) (by assumption) ?_; case hy => ((intro w hSw; (try dsimp only at hSw); go_simp); (try with_reducible rfl)))
          | (refine wpAnyH_take (i := 10) (oi := { dst := some 80, op := Op.move (Operand.tmp 11), type := 4, pos := "law.go:196", after := #[{ on := 9, ground := Ground.guard }], guard := some (9, true) }) (v := undef) rfl (by kernel_rfl) (by kernel_rfl) (by kernel_rfl) (fun _ _ _ h => h) (Or.inr ⟨by rfl, rfl⟩) (by assumption) ?_)
          | fail
        try simp only [Act.put, List.setIfInBounds_toArray, List.set_cons_zero, List.set_cons_succ]
        first
          | (refine wpAnyH_take (i := 11) (oi := { dst := some 81, op := Op.unOp UnOp.not 4 (Operand.tmp 80), type := 4, pos := "law.go:196", after := #[{ on := 10, ground := Ground.data }, { on := 9, ground := Ground.guard }], guard := some (9, true) }) (v := ?_) rfl (by kernel_rfl) (by kernel_rfl) (by kernel_rfl) (fun _ _ _ h => h) (Or.inl ⟨by rfl, ?hy⟩) (by assumption) ?_; case hy => ((intro w hSw; (try dsimp only at hSw); go_simp); (try with_reducible rfl)))
          | (refine wpAnyH_take (i := 11) (oi := { dst := some 81, op := Op.unOp UnOp.not 4 (Operand.tmp 80), type := 4, pos := "law.go:196", after := #[{ on := 10, ground := Ground.data }, { on := 9, ground := Ground.guard }], guard := some (9, true) }) (v := undef) rfl (by kernel_rfl) (by kernel_rfl) (by kernel_rfl) (fun _ _ _ h => h) (Or.inr ⟨by rfl, rfl⟩) (by assumption) ?_)
          | fail
        try simp only [Act.put, List.setIfInBounds_toArray, List.set_cons_zero, List.set_cons_succ]
        first
          | (refine wpAnyH_take (i := 12) (oi := { dst := some 82, op := Op.pick (Operand.tmp 79) (Operand.tmp 81) (Operand.const (Value.bool false)), type := 4, pos := "law.go:196", after := #[{ on := 9, ground := Ground.data }, { on := 11, ground := Ground.data }, { on := 4, ground := Ground.guard }], guard := some (4, false) }) (v := ?_) rfl (by kernel_rfl) (by kernel_rfl) (by kernel_rfl) (fun _ _ _ h => h) (Or.inl ⟨by rfl, ?hy⟩) (by assumption) ?_; case hy => ((intro w hSw; (try dsimp only at hSw); go_simp); (try with_reducible rfl)))
          | (refine wpAnyH_take (i := 12) (oi := { dst := some 82, op := Op.pick (Operand.tmp 79) (Operand.tmp 81) (Operand.const (Value.bool false)), type := 4, pos := "law.go:196", after := #[{ on := 9, ground := Ground.data }, { on := 11, ground := Ground.data }, { on := 4, ground := Ground.guard }], guard := some (4, false) }) (v := undef) rfl (by kernel_rfl) (by kernel_rfl) (by kernel_rfl) (fun _ _ _ h => h) (Or.inr ⟨by rfl, rfl⟩) (by assumption) ?_)
          | fail
        try simp only [Act.put, List.setIfInBounds_toArray, List.set_cons_zero, List.set_cons_succ]
        first
          | (refine wpAnyH_take (i := 13) (oi := { dst := some 83, op := Op.binOp BinOp.neq 4 (Operand.tmp 76) (Operand.tmp 82) 4, type := 4, pos := "law.go:196", after := #[{ on := 6, ground := Ground.data }, { on := 12, ground := Ground.data }, { on := 4, ground := Ground.guard }], guard := some (4, false) }) (v := ?_) rfl (by kernel_rfl) (by kernel_rfl) (by kernel_rfl) (fun _ _ _ h => h) (Or.inl ⟨by rfl, ?hy⟩) (by assumption) ?_; case hy => ((intro w hSw; (try dsimp only at hSw); go_simp); (try with_reducible rfl)))
          | (refine wpAnyH_take (i := 13) (oi := { dst := some 83, op := Op.binOp BinOp.neq 4 (Operand.tmp 76) (Operand.tmp 82) 4, type := 4, pos := "law.go:196", after := #[{ on := 6, ground := Ground.data }, { on := 12, ground := Ground.data }, { on := 4, ground := Ground.guard }], guard := some (4, false) }) (v := undef) rfl (by kernel_rfl) (by kernel_rfl) (by kernel_rfl) (fun _ _ _ h => h) (Or.inr ⟨by rfl, rfl⟩) (by assumption) ?_)
          | fail
        try simp only [Act.put, List.setIfInBounds_toArray, List.set_cons_zero, List.set_cons_succ]
        first
          | (refine wpAnyH_take (i := 14) (oi := { dst := some 84, op := Op.pick (Operand.tmp 74) (Operand.const (Value.bool true)) (Operand.tmp 83), type := 4, pos := "law.go:196", after := #[{ on := 4, ground := Ground.data }, { on := 13, ground := Ground.data }], guard := none }) (v := ?_) rfl (by kernel_rfl) (by kernel_rfl) (by kernel_rfl) (fun _ _ _ h => h) (Or.inl ⟨by rfl, ?hy⟩) (by assumption) ?_; case hy => ((intro w hSw; (try dsimp only at hSw); go_simp); (try with_reducible rfl)))
          | (refine wpAnyH_take (i := 14) (oi := { dst := some 84, op := Op.pick (Operand.tmp 74) (Operand.const (Value.bool true)) (Operand.tmp 83), type := 4, pos := "law.go:196", after := #[{ on := 4, ground := Ground.data }, { on := 13, ground := Ground.data }], guard := none }) (v := undef) rfl (by kernel_rfl) (by kernel_rfl) (by kernel_rfl) (fun _ _ _ h => h) (Or.inr ⟨by rfl, rfl⟩) (by assumption) ?_)
          | fail
        try simp only [Act.put, List.setIfInBounds_toArray, List.set_cons_zero, List.set_cons_succ]
        first
          | (refine wpAnyH_take (i := 15) (oi := { dst := some 85, op := Op.move (Operand.tmp 84), type := 4, pos := "law.go:196", after := #[{ on := 14, ground := Ground.data }, { on := 9, ground := Ground.chain }], guard := none }) (v := ?_) rfl (by kernel_rfl) (by kernel_rfl) (by kernel_rfl) (fun _ _ _ h => h) (Or.inl ⟨by rfl, ?hy⟩) (by assumption) ?_; case hy => ((intro w hSw; (try dsimp only at hSw); go_simp); (try with_reducible rfl)))
          | (refine wpAnyH_take (i := 15) (oi := { dst := some 85, op := Op.move (Operand.tmp 84), type := 4, pos := "law.go:196", after := #[{ on := 14, ground := Ground.data }, { on := 9, ground := Ground.chain }], guard := none }) (v := undef) rfl (by kernel_rfl) (by kernel_rfl) (by kernel_rfl) (fun _ _ _ h => h) (Or.inr ⟨by rfl, rfl⟩) (by assumption) ?_)
          | fail
        try simp only [Act.put, List.setIfInBounds_toArray, List.set_cons_zero, List.set_cons_succ]
        first
          | (refine wpAnyH_take (i := 16) (oi := { dst := some 86, op := Op.fieldAddr 34 (Operand.tmp 10) 2, type := 0, pos := "law.go:196", after := #[{ on := 15, ground := Ground.guard }], guard := some (15, false) }) (v := ?_) rfl (by kernel_rfl) (by kernel_rfl) (by kernel_rfl) (fun _ _ _ h => h) (Or.inl ⟨by rfl, ?hy⟩) (by assumption) ?_; case hy => ((intro w hSw; (try dsimp only at hSw); go_simp); (try with_reducible rfl)))
          | (refine wpAnyH_take (i := 16) (oi := { dst := some 86, op := Op.fieldAddr 34 (Operand.tmp 10) 2, type := 0, pos := "law.go:196", after := #[{ on := 15, ground := Ground.guard }], guard := some (15, false) }) (v := undef) rfl (by kernel_rfl) (by kernel_rfl) (by kernel_rfl) (fun _ _ _ h => h) (Or.inr ⟨by rfl, rfl⟩) (by assumption) ?_)
          | fail
        try simp only [Act.put, List.setIfInBounds_toArray, List.set_cons_zero, List.set_cons_succ]
        first
          | (refine wpAnyH_take (i := 17) (oi := { dst := some 87, op := Op.load 4 (Operand.tmp 86), type := 4, pos := "law.go:196", after := #[{ on := 16, ground := Ground.data }, { on := 15, ground := Ground.guard }], guard := some (15, false) }) (v := ?_) rfl (by kernel_rfl) (by kernel_rfl) (by kernel_rfl) (fun _ _ _ h => h) (Or.inl ⟨by rfl, ?hy⟩) (by assumption) ?_; case hy => ((intro w hSw; (try dsimp only at hSw); go_simp); (try with_reducible rfl)))
          | (refine wpAnyH_take (i := 17) (oi := { dst := some 87, op := Op.load 4 (Operand.tmp 86), type := 4, pos := "law.go:196", after := #[{ on := 16, ground := Ground.data }, { on := 15, ground := Ground.guard }], guard := some (15, false) }) (v := undef) rfl (by kernel_rfl) (by kernel_rfl) (by kernel_rfl) (fun _ _ _ h => h) (Or.inr ⟨by rfl, rfl⟩) (by assumption) ?_)
          | fail
        try simp only [Act.put, List.setIfInBounds_toArray, List.set_cons_zero, List.set_cons_succ]
        first
          | (refine wpAnyH_take (i := 18) (oi := { dst := some 88, op := Op.move (Operand.tmp 87), type := 4, pos := "law.go:196", after := #[{ on := 17, ground := Ground.data }, { on := 15, ground := Ground.chain }, { on := 15, ground := Ground.guard }], guard := some (15, false) }) (v := ?_) rfl (by kernel_rfl) (by kernel_rfl) (by kernel_rfl) (fun _ _ _ h => h) (Or.inl ⟨by rfl, ?hy⟩) (by assumption) ?_; case hy => ((intro w hSw; (try dsimp only at hSw); go_simp); (try with_reducible rfl)))
          | (refine wpAnyH_take (i := 18) (oi := { dst := some 88, op := Op.move (Operand.tmp 87), type := 4, pos := "law.go:196", after := #[{ on := 17, ground := Ground.data }, { on := 15, ground := Ground.chain }, { on := 15, ground := Ground.guard }], guard := some (15, false) }) (v := undef) rfl (by kernel_rfl) (by kernel_rfl) (by kernel_rfl) (fun _ _ _ h => h) (Or.inr ⟨by rfl, rfl⟩) (by assumption) ?_)
          | fail
        try simp only [Act.put, List.setIfInBounds_toArray, List.set_cons_zero, List.set_cons_succ]
        first
          | (refine wpAnyH_take (i := 19) (oi := { dst := some 89, op := Op.fieldAddr 34 (Operand.tmp 10) 1, type := 0, pos := "law.go:196", after := #[{ on := 18, ground := Ground.guard }], guard := some (18, true) }) (v := ?_) rfl (by kernel_rfl) (by kernel_rfl) (by kernel_rfl) (fun _ _ _ h => h) (Or.inl ⟨by rfl, ?hy⟩) (by assumption) ?_; case hy => ((intro w hSw; (try dsimp only at hSw); go_simp); (try with_reducible rfl)))
          | (refine wpAnyH_take (i := 19) (oi := { dst := some 89, op := Op.fieldAddr 34 (Operand.tmp 10) 1, type := 0, pos := "law.go:196", after := #[{ on := 18, ground := Ground.guard }], guard := some (18, true) }) (v := undef) rfl (by kernel_rfl) (by kernel_rfl) (by kernel_rfl) (fun _ _ _ h => h) (Or.inr ⟨by rfl, rfl⟩) (by assumption) ?_)
          | fail
        try simp only [Act.put, List.setIfInBounds_toArray, List.set_cons_zero, List.set_cons_succ]
        first
          | (refine wpAnyH_take (i := 20) (oi := { dst := some 90, op := Op.load 9 (Operand.tmp 89), type := 9, pos := "law.go:196", after := #[{ on := 19, ground := Ground.data }, { on := 18, ground := Ground.guard }], guard := some (18, true) }) (v := ?_) rfl (by kernel_rfl) (by kernel_rfl) (by kernel_rfl) (fun _ _ _ h => h) (Or.inl ⟨by rfl, ?hy⟩) (by assumption) ?_; case hy => ((intro w hSw; (try dsimp only at hSw); go_simp); (try with_reducible rfl)))
          | (refine wpAnyH_take (i := 20) (oi := { dst := some 90, op := Op.load 9 (Operand.tmp 89), type := 9, pos := "law.go:196", after := #[{ on := 19, ground := Ground.data }, { on := 18, ground := Ground.guard }], guard := some (18, true) }) (v := undef) rfl (by kernel_rfl) (by kernel_rfl) (by kernel_rfl) (fun _ _ _ h => h) (Or.inr ⟨by rfl, rfl⟩) (by assumption) ?_)
          | fail
        try simp only [Act.put, List.setIfInBounds_toArray, List.set_cons_zero, List.set_cons_succ]
        first
          | (refine wpAnyH_take (i := 21) (oi := { dst := some 91, op := Op.move (Operand.tmp 2), type := 23, pos := "law.go:196", after := #[{ on := 18, ground := Ground.guard }], guard := some (18, true) }) (v := ?_) rfl (by kernel_rfl) (by kernel_rfl) (by kernel_rfl) (fun _ _ _ h => h) (Or.inl ⟨by rfl, ?hy⟩) (by assumption) ?_; case hy => ((intro w hSw; (try dsimp only at hSw); go_simp); (try with_reducible rfl)))
          | (refine wpAnyH_take (i := 21) (oi := { dst := some 91, op := Op.move (Operand.tmp 2), type := 23, pos := "law.go:196", after := #[{ on := 18, ground := Ground.guard }], guard := some (18, true) }) (v := undef) rfl (by kernel_rfl) (by kernel_rfl) (by kernel_rfl) (fun _ _ _ h => h) (Or.inr ⟨by rfl, rfl⟩) (by assumption) ?_)
          | fail
        try simp only [Act.put, List.setIfInBounds_toArray, List.set_cons_zero, List.set_cons_succ]
        first
          | (refine wpAnyH_take (i := 22) (oi := { dst := some 92, op := Op.move (Operand.tmp 9), type := 3, pos := "law.go:196", after := #[{ on := 18, ground := Ground.guard }], guard := some (18, true) }) (v := ?_) rfl (by kernel_rfl) (by kernel_rfl) (by kernel_rfl) (fun _ _ _ h => h) (Or.inl ⟨by rfl, ?hy⟩) (by assumption) ?_; case hy => ((intro w hSw; (try dsimp only at hSw); go_simp); (try with_reducible rfl)))
          | (refine wpAnyH_take (i := 22) (oi := { dst := some 92, op := Op.move (Operand.tmp 9), type := 3, pos := "law.go:196", after := #[{ on := 18, ground := Ground.guard }], guard := some (18, true) }) (v := undef) rfl (by kernel_rfl) (by kernel_rfl) (by kernel_rfl) (fun _ _ _ h => h) (Or.inr ⟨by rfl, rfl⟩) (by assumption) ?_)
          | fail
        try simp only [Act.put, List.setIfInBounds_toArray, List.set_cons_zero, List.set_cons_succ]
        first
          | (refine wpAnyH_take (i := 23) (oi := { dst := some 93, op := Op.binOp BinOp.sub 3 (Operand.tmp 92) (Operand.const (Value.int IntKind.i64 1)) 3, type := 3, pos := "law.go:196", after := #[{ on := 22, ground := Ground.data }, { on := 18, ground := Ground.guard }], guard := some (18, true) }) (v := ?_) rfl (by kernel_rfl) (by kernel_rfl) (by kernel_rfl) (fun _ _ _ h => h) (Or.inl ⟨by rfl, ?hy⟩) (by assumption) ?_; case hy => ((intro w hSw; (try dsimp only at hSw); go_simp); (try with_reducible rfl)))
          | (refine wpAnyH_take (i := 23) (oi := { dst := some 93, op := Op.binOp BinOp.sub 3 (Operand.tmp 92) (Operand.const (Value.int IntKind.i64 1)) 3, type := 3, pos := "law.go:196", after := #[{ on := 22, ground := Ground.data }, { on := 18, ground := Ground.guard }], guard := some (18, true) }) (v := undef) rfl (by kernel_rfl) (by kernel_rfl) (by kernel_rfl) (fun _ _ _ h => h) (Or.inr ⟨by rfl, rfl⟩) (by assumption) ?_)
          | fail
        try simp only [Act.put, List.setIfInBounds_toArray, List.set_cons_zero, List.set_cons_succ]
        first
          | (refine wpAnyH_take (i := 24) (oi := { dst := some 94, op := Op.indexAddr 23 (Operand.tmp 91) (Operand.tmp 93), type := 0, pos := "law.go:196", after := #[{ on := 21, ground := Ground.data }, { on := 23, ground := Ground.data }, { on := 18, ground := Ground.guard }], guard := some (18, true) }) (v := ?_) rfl (by kernel_rfl) (by kernel_rfl) (by kernel_rfl) (fun _ _ _ h => h) (Or.inl ⟨by rfl, ?hy⟩) (by assumption) ?_; case hy => ((intro w hSw; (try dsimp only at hSw); go_simp); (try with_reducible rfl)))
          | (refine wpAnyH_take (i := 24) (oi := { dst := some 94, op := Op.indexAddr 23 (Operand.tmp 91) (Operand.tmp 93), type := 0, pos := "law.go:196", after := #[{ on := 21, ground := Ground.data }, { on := 23, ground := Ground.data }, { on := 18, ground := Ground.guard }], guard := some (18, true) }) (v := undef) rfl (by kernel_rfl) (by kernel_rfl) (by kernel_rfl) (fun _ _ _ h => h) (Or.inr ⟨by rfl, rfl⟩) (by assumption) ?_)
          | fail
        try simp only [Act.put, List.setIfInBounds_toArray, List.set_cons_zero, List.set_cons_succ]
        first
          | (refine wpAnyH_take (i := 25) (oi := { dst := some 95, op := Op.load 9 (Operand.tmp 94), type := 9, pos := "law.go:196", after := #[{ on := 24, ground := Ground.data }, { on := 18, ground := Ground.guard }], guard := some (18, true) }) (v := ?_) rfl (by kernel_rfl) (by kernel_rfl) (by kernel_rfl) (fun _ _ _ h => h) (Or.inl ⟨by rfl, ?hy⟩) (by assumption) ?_; case hy => ((intro w hSw; (try dsimp only at hSw); go_simp); (try with_reducible rfl)))
          | (refine wpAnyH_take (i := 25) (oi := { dst := some 95, op := Op.load 9 (Operand.tmp 94), type := 9, pos := "law.go:196", after := #[{ on := 24, ground := Ground.data }, { on := 18, ground := Ground.guard }], guard := some (18, true) }) (v := undef) rfl (by kernel_rfl) (by kernel_rfl) (by kernel_rfl) (fun _ _ _ h => h) (Or.inr ⟨by rfl, rfl⟩) (by assumption) ?_)
          | fail
        try simp only [Act.put, List.setIfInBounds_toArray, List.set_cons_zero, List.set_cons_succ]
        first
          | (refine wpAnyH_take (i := 26) (oi := { dst := some 96, op := Op.binOp BinOp.neq 9 (Operand.tmp 90) (Operand.tmp 95) 9, type := 4, pos := "law.go:196", after := #[{ on := 20, ground := Ground.data }, { on := 25, ground := Ground.data }, { on := 18, ground := Ground.guard }], guard := some (18, true) }) (v := ?_) rfl (by kernel_rfl) (by kernel_rfl) (by kernel_rfl) (fun _ _ _ h => h) (Or.inl ⟨by rfl, ?hy⟩) (by assumption) ?_; case hy => ((intro w hSw; (try dsimp only at hSw); go_simp); (try with_reducible rfl)))
          | (refine wpAnyH_take (i := 26) (oi := { dst := some 96, op := Op.binOp BinOp.neq 9 (Operand.tmp 90) (Operand.tmp 95) 9, type := 4, pos := "law.go:196", after := #[{ on := 20, ground := Ground.data }, { on := 25, ground := Ground.data }, { on := 18, ground := Ground.guard }], guard := some (18, true) }) (v := undef) rfl (by kernel_rfl) (by kernel_rfl) (by kernel_rfl) (fun _ _ _ h => h) (Or.inr ⟨by rfl, rfl⟩) (by assumption) ?_)
          | fail
        try simp only [Act.put, List.setIfInBounds_toArray, List.set_cons_zero, List.set_cons_succ]
        first
          | (refine wpAnyH_take (i := 27) (oi := { dst := some 97, op := Op.pick (Operand.tmp 88) (Operand.tmp 96) (Operand.const (Value.bool false)), type := 4, pos := "law.go:196", after := #[{ on := 18, ground := Ground.data }, { on := 26, ground := Ground.data }, { on := 15, ground := Ground.guard }], guard := some (15, false) }) (v := ?_) rfl (by kernel_rfl) (by kernel_rfl) (by kernel_rfl) (fun _ _ _ h => h) (Or.inl ⟨by rfl, ?hy⟩) (by assumption) ?_; case hy => ((intro w hSw; (try dsimp only at hSw); go_simp); (try with_reducible rfl)))
          | (refine wpAnyH_take (i := 27) (oi := { dst := some 97, op := Op.pick (Operand.tmp 88) (Operand.tmp 96) (Operand.const (Value.bool false)), type := 4, pos := "law.go:196", after := #[{ on := 18, ground := Ground.data }, { on := 26, ground := Ground.data }, { on := 15, ground := Ground.guard }], guard := some (15, false) }) (v := undef) rfl (by kernel_rfl) (by kernel_rfl) (by kernel_rfl) (fun _ _ _ h => h) (Or.inr ⟨by rfl, rfl⟩) (by assumption) ?_)
          | fail
        try simp only [Act.put, List.setIfInBounds_toArray, List.set_cons_zero, List.set_cons_succ]
        first
          | (refine wpAnyH_take (i := 28) (oi := { dst := some 98, op := Op.pick (Operand.tmp 85) (Operand.const (Value.bool true)) (Operand.tmp 97), type := 4, pos := "law.go:196", after := #[{ on := 15, ground := Ground.data }, { on := 27, ground := Ground.data }], guard := none }) (v := ?_) rfl (by kernel_rfl) (by kernel_rfl) (by kernel_rfl) (fun _ _ _ h => h) (Or.inl ⟨by rfl, ?hy⟩) (by assumption) ?_; case hy => ((intro w hSw; (try dsimp only at hSw); go_simp); (try with_reducible rfl)))
          | (refine wpAnyH_take (i := 28) (oi := { dst := some 98, op := Op.pick (Operand.tmp 85) (Operand.const (Value.bool true)) (Operand.tmp 97), type := 4, pos := "law.go:196", after := #[{ on := 15, ground := Ground.data }, { on := 27, ground := Ground.data }], guard := none }) (v := undef) rfl (by kernel_rfl) (by kernel_rfl) (by kernel_rfl) (fun _ _ _ h => h) (Or.inr ⟨by rfl, rfl⟩) (by assumption) ?_)
          | fail
        try simp only [Act.put, List.setIfInBounds_toArray, List.set_cons_zero, List.set_cons_succ]
        first
          | (refine wpAnyH_take (i := 29) (oi := { dst := some 99, op := Op.move (Operand.tmp 98), type := 4, pos := "law.go:196", after := #[{ on := 28, ground := Ground.data }, { on := 18, ground := Ground.chain }], guard := none }) (v := ?_) rfl (by kernel_rfl) (by kernel_rfl) (by kernel_rfl) (fun _ _ _ h => h) (Or.inl ⟨by rfl, ?hy⟩) (by assumption) ?_; case hy => ((intro w hSw; (try dsimp only at hSw); go_simp); (try with_reducible rfl)))
          | (refine wpAnyH_take (i := 29) (oi := { dst := some 99, op := Op.move (Operand.tmp 98), type := 4, pos := "law.go:196", after := #[{ on := 28, ground := Ground.data }, { on := 18, ground := Ground.chain }], guard := none }) (v := undef) rfl (by kernel_rfl) (by kernel_rfl) (by kernel_rfl) (fun _ _ _ h => h) (Or.inr ⟨by rfl, rfl⟩) (by assumption) ?_)
          | fail
        try simp only [Act.put, List.setIfInBounds_toArray, List.set_cons_zero, List.set_cons_succ]
        first
          | (refine wpAnyH_take (i := 30) (oi := { dst := some 100, op := Op.move (Operand.tmp 7), type := 25, pos := "law.go:196", after := #[{ on := 29, ground := Ground.guard }], guard := some (29, false) }) (v := ?_) rfl (by kernel_rfl) (by kernel_rfl) (by kernel_rfl) (fun _ _ _ h => h) (Or.inl ⟨by rfl, ?hy⟩) (by assumption) ?_; case hy => ((intro w hSw; (try dsimp only at hSw); go_simp); (try with_reducible rfl)))
          | (refine wpAnyH_take (i := 30) (oi := { dst := some 100, op := Op.move (Operand.tmp 7), type := 25, pos := "law.go:196", after := #[{ on := 29, ground := Ground.guard }], guard := some (29, false) }) (v := undef) rfl (by kernel_rfl) (by kernel_rfl) (by kernel_rfl) (fun _ _ _ h => h) (Or.inr ⟨by rfl, rfl⟩) (by assumption) ?_)
          | fail
        try simp only [Act.put, List.setIfInBounds_toArray, List.set_cons_zero, List.set_cons_succ]
        first
          | (refine wpAnyH_take (i := 32) (oi := { dst := some 102, op := Op.move (Operand.tmp 2), type := 23, pos := "law.go:196", after := #[{ on := 29, ground := Ground.guard }], guard := some (29, false) }) (v := ?_) rfl (by kernel_rfl) (by kernel_rfl) (by kernel_rfl) (fun _ _ _ h => h) (Or.inl ⟨by rfl, ?hy⟩) (by assumption) ?_; case hy => ((intro w hSw; (try dsimp only at hSw); go_simp); (try with_reducible rfl)))
          | (refine wpAnyH_take (i := 32) (oi := { dst := some 102, op := Op.move (Operand.tmp 2), type := 23, pos := "law.go:196", after := #[{ on := 29, ground := Ground.guard }], guard := some (29, false) }) (v := undef) rfl (by kernel_rfl) (by kernel_rfl) (by kernel_rfl) (fun _ _ _ h => h) (Or.inr ⟨by rfl, rfl⟩) (by assumption) ?_)
          | fail
        try simp only [Act.put, List.setIfInBounds_toArray, List.set_cons_zero, List.set_cons_succ]
        first
          | (refine wpAnyH_take (i := 33) (oi := { dst := some 103, op := Op.move (Operand.tmp 9), type := 3, pos := "law.go:196", after := #[{ on := 29, ground := Ground.guard }], guard := some (29, false) }) (v := ?_) rfl (by kernel_rfl) (by kernel_rfl) (by kernel_rfl) (fun _ _ _ h => h) (Or.inl ⟨by rfl, ?hy⟩) (by assumption) ?_; case hy => ((intro w hSw; (try dsimp only at hSw); go_simp); (try with_reducible rfl)))
          | (refine wpAnyH_take (i := 33) (oi := { dst := some 103, op := Op.move (Operand.tmp 9), type := 3, pos := "law.go:196", after := #[{ on := 29, ground := Ground.guard }], guard := some (29, false) }) (v := undef) rfl (by kernel_rfl) (by kernel_rfl) (by kernel_rfl) (fun _ _ _ h => h) (Or.inr ⟨by rfl, rfl⟩) (by assumption) ?_)
          | fail
        try simp only [Act.put, List.setIfInBounds_toArray, List.set_cons_zero, List.set_cons_succ]
        first
          | (refine wpAnyH_take (i := 34) (oi := { dst := some 104, op := Op.indexAddr 23 (Operand.tmp 102) (Operand.tmp 103), type := 0, pos := "law.go:196", after := #[{ on := 32, ground := Ground.data }, { on := 33, ground := Ground.data }, { on := 29, ground := Ground.guard }], guard := some (29, false) }) (v := ?_) rfl (by kernel_rfl) (by kernel_rfl) (by kernel_rfl) (fun _ _ _ h => h) (Or.inl ⟨by rfl, ?hy⟩) (by assumption) ?_; case hy => ((intro w hSw; (try dsimp only at hSw); go_simp); (try with_reducible rfl)))
          | (refine wpAnyH_take (i := 34) (oi := { dst := some 104, op := Op.indexAddr 23 (Operand.tmp 102) (Operand.tmp 103), type := 0, pos := "law.go:196", after := #[{ on := 32, ground := Ground.data }, { on := 33, ground := Ground.data }, { on := 29, ground := Ground.guard }], guard := some (29, false) }) (v := undef) rfl (by kernel_rfl) (by kernel_rfl) (by kernel_rfl) (fun _ _ _ h => h) (Or.inr ⟨by rfl, rfl⟩) (by assumption) ?_)
          | fail
        try simp only [Act.put, List.setIfInBounds_toArray, List.set_cons_zero, List.set_cons_succ]
        first
          | (refine wpAnyH_take (i := 35) (oi := { dst := some 105, op := Op.load 9 (Operand.tmp 104), type := 9, pos := "law.go:196", after := #[{ on := 34, ground := Ground.data }, { on := 29, ground := Ground.guard }], guard := some (29, false) }) (v := ?_) rfl (by kernel_rfl) (by kernel_rfl) (by kernel_rfl) (fun _ _ _ h => h) (Or.inl ⟨by rfl, ?hy⟩) (by assumption) ?_; case hy => ((intro w hSw; (try dsimp only at hSw); go_simp); (try with_reducible rfl)))
          | (refine wpAnyH_take (i := 35) (oi := { dst := some 105, op := Op.load 9 (Operand.tmp 104), type := 9, pos := "law.go:196", after := #[{ on := 34, ground := Ground.data }, { on := 29, ground := Ground.guard }], guard := some (29, false) }) (v := undef) rfl (by kernel_rfl) (by kernel_rfl) (by kernel_rfl) (fun _ _ _ h => h) (Or.inr ⟨by rfl, rfl⟩) (by assumption) ?_)
          | fail
        try simp only [Act.put, List.setIfInBounds_toArray, List.set_cons_zero, List.set_cons_succ]
        refine wpAnyH_ready (rs := [31, 36]) (by kernel_rfl) (by simp) ?_
        refine AllReadyH.cons (o := { dst := some 101, op := Op.call { callee := Callee.value (Operand.func 14), args := #[Operand.tmp 100], argTypes := #[25] }, type := 23, pos := "law.go:196", after := #[{ on := 30, ground := Ground.data }, { on := 29, ground := Ground.chain }, { on := 29, ground := Ground.guard }], guard := some (29, false) }) rfl (fun K hK => ?_) ?_
        · go_simp
          go_wp2_with (go_at_call 14; (with_reducible refine (hKk.out _ _ (Holds.p1 h6d.out)).mono ?_); rintro r w13 ⟨ao, cap, rfl, h13⟩; have h13 := hide h13)
          refine hK.out _ _ ?_ (fun hHeld2 => ?_)
          · exact hS.out _ _ h13.out.toKeep (Holds.p2 h13.out)
          clear hK K
          try simp only [Act.put, List.setIfInBounds_toArray, List.set_cons_zero, List.set_cons_succ]
          refine wpAnyH_ready (rs := [36]) (by kernel_rfl) (by simp) ?_
          refine AllReadyH.cons (o := { dst := some 106, op := Op.buildSlice 23 1 #[(0, Operand.tmp 105)], type := 23, pos := "law.go:196", after := #[{ on := 35, ground := Ground.data }, { on := 29, ground := Ground.guard }], guard := some (29, false) }) rfl (fun K hK => ?_) ?_
          · go_simp
            have h14 := hide (h13.out.alloc (o := .cells #[.string key] 9))
            refine hK.out _ _ ?_ (fun hHeld2 => ?_)
            · exact hS.out _ _ h14.out.toKeep (Holds.p3 h14.out)
            clear hK K
            try simp only [Act.put, List.setIfInBounds_toArray, List.set_cons_zero, List.set_cons_succ]
            refine wpAnyH_ready (rs := [37]) (by kernel_rfl) (by simp) ?_
            have ra := hide (Holds.strsAt (Holds.p1 h14.out))
            have rb : Hide (RowAt _ (.slice (some ⟨w13.heap.size, 0, none⟩) 1 1) (strs [key])) := ⟨Holds.strsAt (Holds.one h14.out)⟩
            refine AllReadyH.cons (o := { dst := some 107, op := Op.call { callee := Callee.value (Operand.func 20), args := #[Operand.tmp 101, Operand.tmp 106], argTypes := #[23, 23] }, type := 4, pos := "law.go:196", after := #[{ on := 31, ground := Ground.data }, { on := 36, ground := Ground.data }, { on := 31, ground := Ground.chain }, { on := 29, ground := Ground.guard }], guard := some (29, false) }) rfl (fun K hK => ?_) ?_
            · go_simp
              go_wp2_with (go_at_call 20; (with_reducible refine (hSm.out _ _ _ ra.out rb.out).mono ?_); rintro r w15 ⟨rfl, dn, rfl⟩; have h15 := hide (h14.out.drewN (n := dn)))
              refine hK.out _ _ ?_ (fun hHeld2 => ?_)
              · exact hS.out _ _ h15.out.toKeep (Holds.p3 h15.out)
              clear hK K
              try simp only [Act.put, List.setIfInBounds_toArray, List.set_cons_zero, List.set_cons_succ]
              first
                | (refine wpAnyH_take (i := 38) (oi := { dst := some 108, op := Op.unOp UnOp.not 4 (Operand.tmp 107), type := 4, pos := "law.go:196", after := #[{ on := 37, ground := Ground.data }, { on := 29, ground := Ground.guard }], guard := some (29, false) }) (v := ?_) rfl (by kernel_rfl) (by kernel_rfl) (by kernel_rfl) (fun _ _ _ h => h) (Or.inl ⟨by rfl, ?hy⟩) (by assumption) ?_; case hy => ((intro w hSw; (try dsimp only at hSw); go_simp); (try with_reducible rfl)))
                | (refine wpAnyH_take (i := 38) (oi := { dst := some 108, op := Op.unOp UnOp.not 4 (Operand.tmp 107), type := 4, pos := "law.go:196", after := #[{ on := 37, ground := Ground.data }, { on := 29, ground := Ground.guard }], guard := some (29, false) }) (v := undef) rfl (by kernel_rfl) (by kernel_rfl) (by kernel_rfl) (fun _ _ _ h => h) (Or.inr ⟨by rfl, rfl⟩) (by assumption) ?_)
                | fail
              try simp only [Act.put, List.setIfInBounds_toArray, List.set_cons_zero, List.set_cons_succ]
              first
                | (refine wpAnyH_take (i := 39) (oi := { dst := some 109, op := Op.pick (Operand.tmp 99) (Operand.const (Value.bool true)) (Operand.tmp 108), type := 4, pos := "law.go:196", after := #[{ on := 29, ground := Ground.data }, { on := 38, ground := Ground.data }], guard := none }) (v := ?_) rfl (by kernel_rfl) (by kernel_rfl) (by kernel_rfl) (fun _ _ _ h => h) (Or.inl ⟨by rfl, ?hy⟩) (by assumption) ?_; case hy => ((intro w hSw; (try dsimp only at hSw); go_simp); (try with_reducible rfl)))
                | (refine wpAnyH_take (i := 39) (oi := { dst := some 109, op := Op.pick (Operand.tmp 99) (Operand.const (Value.bool true)) (Operand.tmp 108), type := 4, pos := "law.go:196", after := #[{ on := 29, ground := Ground.data }, { on := 38, ground := Ground.data }], guard := none }) (v := undef) rfl (by kernel_rfl) (by kernel_rfl) (by kernel_rfl) (fun _ _ _ h => h) (Or.inr ⟨by rfl, rfl⟩) (by assumption) ?_)
                | fail
              try simp only [Act.put, List.setIfInBounds_toArray, List.set_cons_zero, List.set_cons_succ]
              refine wpAnyH_done (by kernel_rfl) ?_ _
              clear hHeld hHeld2
              go_wp2; (go_roundg (n - (i + 1))); (case measure => (rw [← hci.out]; omega)); (case rel => exact ⟨i + 1, y, u, ⟨rfl⟩, by omega, rfl, hIy, h15.out.drop.drop.p1.drop⟩)
            exact AllReadyH.nil
          exact AllReadyH.nil
        refine AllReadyH.cons (o := { dst := some 106, op := Op.buildSlice 23 1 #[(0, Operand.tmp 105)], type := 23, pos := "law.go:196", after := #[{ on := 35, ground := Ground.data }, { on := 29, ground := Ground.guard }], guard := some (29, false) }) rfl (fun K hK => ?_) ?_
        · go_simp
          have h14 := hide ((hQ.out.alloc (o := .cells #[.string key] 9)).drew)
          refine hK.out _ _ ?_ (fun hHeld2 => ?_)
          · exact hS.out _ _ h14.out.toKeep (Holds.p1 h14.out)
          clear hK K
          try simp only [Act.put, List.setIfInBounds_toArray, List.set_cons_zero, List.set_cons_succ]
          refine wpAnyH_ready (rs := [31]) (by kernel_rfl) (by simp) ?_
          refine AllReadyH.cons (o := { dst := some 101, op := Op.call { callee := Callee.value (Operand.func 14), args := #[Operand.tmp 100], argTypes := #[25] }, type := 23, pos := "law.go:196", after := #[{ on := 30, ground := Ground.data }, { on := 29, ground := Ground.chain }, { on := 29, ground := Ground.guard }], guard := some (29, false) }) rfl (fun K hK => ?_) ?_
          · go_simp
            go_wp2_with (go_at_call 14; (with_reducible refine (hKk.out _ _ (Holds.p2 h14.out)).mono ?_); rintro r w13 ⟨ao, cap, rfl, h13⟩; have h13 := hide h13)
            refine hK.out _ _ ?_ (fun hHeld2 => ?_)
            · exact hS.out _ _ h13.out.toKeep (Holds.p3 h13.out)
            clear hK K
            try simp only [Act.put, List.setIfInBounds_toArray, List.set_cons_zero, List.set_cons_succ]
            refine wpAnyH_ready (rs := [37]) (by kernel_rfl) (by simp) ?_
            have ra := hide (Holds.strsAt h13.out)
            have rb : Hide (RowAt _ (.slice (some ⟨uq.world.heap.size, 0, none⟩) 1 1) (strs [key])) := ⟨Holds.strsAt (Holds.one (Holds.p2 h13.out))⟩
            refine AllReadyH.cons (o := { dst := some 107, op := Op.call { callee := Callee.value (Operand.func 20), args := #[Operand.tmp 101, Operand.tmp 106], argTypes := #[23, 23] }, type := 4, pos := "law.go:196", after := #[{ on := 31, ground := Ground.data }, { on := 36, ground := Ground.data }, { on := 31, ground := Ground.chain }, { on := 29, ground := Ground.guard }], guard := some (29, false) }) rfl (fun K hK => ?_) ?_
            · go_simp
              go_wp2_with (go_at_call 20; (with_reducible refine (hSm.out _ _ _ ra.out rb.out).mono ?_); rintro r w15 ⟨rfl, dn, rfl⟩; have h15 := hide (h13.out.drewN (n := dn)).p2)
              refine hK.out _ _ ?_ (fun hHeld2 => ?_)
              · exact hS.out _ _ h15.out.toKeep (Holds.p3 h15.out)
              clear hK K
              try simp only [Act.put, List.setIfInBounds_toArray, List.set_cons_zero, List.set_cons_succ]
              first
                | (refine wpAnyH_take (i := 38) (oi := { dst := some 108, op := Op.unOp UnOp.not 4 (Operand.tmp 107), type := 4, pos := "law.go:196", after := #[{ on := 37, ground := Ground.data }, { on := 29, ground := Ground.guard }], guard := some (29, false) }) (v := ?_) rfl (by kernel_rfl) (by kernel_rfl) (by kernel_rfl) (fun _ _ _ h => h) (Or.inl ⟨by rfl, ?hy⟩) (by assumption) ?_; case hy => ((intro w hSw; (try dsimp only at hSw); go_simp); (try with_reducible rfl)))
                | (refine wpAnyH_take (i := 38) (oi := { dst := some 108, op := Op.unOp UnOp.not 4 (Operand.tmp 107), type := 4, pos := "law.go:196", after := #[{ on := 37, ground := Ground.data }, { on := 29, ground := Ground.guard }], guard := some (29, false) }) (v := undef) rfl (by kernel_rfl) (by kernel_rfl) (by kernel_rfl) (fun _ _ _ h => h) (Or.inr ⟨by rfl, rfl⟩) (by assumption) ?_)
                | fail
              try simp only [Act.put, List.setIfInBounds_toArray, List.set_cons_zero, List.set_cons_succ]
              first
                | (refine wpAnyH_take (i := 39) (oi := { dst := some 109, op := Op.pick (Operand.tmp 99) (Operand.const (Value.bool true)) (Operand.tmp 108), type := 4, pos := "law.go:196", after := #[{ on := 29, ground := Ground.data }, { on := 38, ground := Ground.data }], guard := none }) (v := ?_) rfl (by kernel_rfl) (by kernel_rfl) (by kernel_rfl) (fun _ _ _ h => h) (Or.inl ⟨by rfl, ?hy⟩) (by assumption) ?_; case hy => ((intro w hSw; (try dsimp only at hSw); go_simp); (try with_reducible rfl)))
                | (refine wpAnyH_take (i := 39) (oi := { dst := some 109, op := Op.pick (Operand.tmp 99) (Operand.const (Value.bool true)) (Operand.tmp 108), type := 4, pos := "law.go:196", after := #[{ on := 29, ground := Ground.data }, { on := 38, ground := Ground.data }], guard := none }) (v := undef) rfl (by kernel_rfl) (by kernel_rfl) (by kernel_rfl) (fun _ _ _ h => h) (Or.inr ⟨by rfl, rfl⟩) (by assumption) ?_)
                | fail
              try simp only [Act.put, List.setIfInBounds_toArray, List.set_cons_zero, List.set_cons_succ]
              refine wpAnyH_done (by kernel_rfl) ?_ _
              clear hHeld hHeld2
              go_wp2; (go_roundg (n - (i + 1))); (case measure => (rw [← hci.out]; omega)); (case rel => exact ⟨i + 1, y, u, ⟨rfl⟩, by omega, rfl, hIy, h15.out.drop.drop.p1.drop⟩)
            exact AllReadyH.nil
          exact AllReadyH.nil
        exact AllReadyH.nil
      | out v h0 hp hne =>
        have hi0 : decide ((0 : Int) < i) = true := decide_eq_true (by omega)
        have hi1 : decide (0 < i) = true := decide_eq_true (by omega)
        obtain ⟨p, hpi⟩ : ∃ p, i = p + 1 := ⟨i - 1, by omega⟩
        have hpn : (p : Int) < n := by omega
        have hnl2 := hnl.out
        have e5 : IntKind.i64.wrap ((i : Int) - 1) = (p : Int) := by rw [IntWalk.i64_in _ (by omega)]; omega
        have hpc : keys[p]? = some v := by rw [← hp, hpi]; rfl
        obtain ⟨bk2, ok2, hak2, cP⟩ := RowR.strCell hk.out hpc
        obtain ⟨rfl, rfl⟩ : bk = bk2 ∧ ok = ok2 := by cases hak2; exact ⟨rfl, rfl⟩
        replace cP := hide cP
        have hkf : (key.toList == v.toList) = false := by rw [beq_eq_false_iff_ne]; exact fun h => hne (bytes_inj h)
        clear hne
        have c6 := h6.toKeep.cell cW.out
        have c7 := h6.toKeep.cell cP.out
        have cx6 : ∀ q : KeptOf W6, q.world.cell? ⟨bk, ok + i, none⟩ = some (.string key) := fun q => q.keep.cell c6
        have cx7 : ∀ q : KeptOf W6, q.world.cell? ⟨bk, ok + p, none⟩ = some (.string v) := fun q => q.keep.cell c7
        clear hak2 hpc hpi hp h0 hnl2 c6 c7
        replace h6 := hide h6
        go_wp2
        (refine wp_region_kept (by kernel_rfl) (by kernel_rfl) ?_; (repeat (go_big_quiet_step (fail))); refine wpQuiet_nil ?_; intro _ hw'; obtain ⟨uq, hw''⟩ := hw'; subst hw'')
        clear cx6 cx7
        have hQ := hide (uq.holds h6.out)
        have h6d := hide hQ.out.drew
        have hS := hide (fun (w' : World) (L : List SProp) (k : Keep W w') (h : Holds W w' (pts rs (.cells #[.bool false, .string v, .bool true] 34) :: L)) => And.intro (Holds.cell (off := 0) h rfl) (And.intro (Holds.cell (off := 1) h rfl) (And.intro (Holds.cell (off := 2) h rfl) (And.intro (k.cell cW.out) (k.cell cP.out)))))
        go_upto_region 13 with fail
        refine wp_region_held_drew (S := fun w' => w'.cell? ⟨rs, 0, none⟩ = some (.bool false) ∧ w'.cell? ⟨rs, 1, none⟩ = some (.string v) ∧ w'.cell? ⟨rs, 2, none⟩ = some (.bool true) ∧ w'.cell? ⟨bk, ok + i, none⟩ = some (.string key) ∧ w'.cell? ⟨bk, ok + p, none⟩ = some (.string v)) (by kernel_rfl) (hS.out _ _ h6d.out.toKeep h6d.out) (fun hHeld => ?_)
        first
          | (refine wpAnyH_take (i := 0) (oi := { dst := some 70, op := Op.fieldAddr 34 (Operand.tmp 10) 0, type := 0, pos := "law.go:196", after := #[], guard := none }) (v := ?_) rfl (by kernel_rfl) (by kernel_rfl) (by kernel_rfl) (fun _ _ _ h => h) (Or.inl ⟨by rfl, ?hy⟩) (by assumption) ?_; case hy => ((intro w hSw; (try dsimp only at hSw); go_simp); (try with_reducible rfl)))
          | (refine wpAnyH_take (i := 0) (oi := { dst := some 70, op := Op.fieldAddr 34 (Operand.tmp 10) 0, type := 0, pos := "law.go:196", after := #[], guard := none }) (v := undef) rfl (by kernel_rfl) (by kernel_rfl) (by kernel_rfl) (fun _ _ _ h => h) (Or.inr ⟨by rfl, rfl⟩) (by assumption) ?_)
          | fail
        try simp only [Act.put, List.setIfInBounds_toArray, List.set_cons_zero, List.set_cons_succ]
        first
          | (refine wpAnyH_take (i := 1) (oi := { dst := some 71, op := Op.load 4 (Operand.tmp 70), type := 4, pos := "law.go:196", after := #[{ on := 0, ground := Ground.data }], guard := none }) (v := ?_) rfl (by kernel_rfl) (by kernel_rfl) (by kernel_rfl) (fun _ _ _ h => h) (Or.inl ⟨by rfl, ?hy⟩) (by assumption) ?_; case hy => ((intro w hSw; (try dsimp only at hSw); go_simp); (try with_reducible rfl)))
          | (refine wpAnyH_take (i := 1) (oi := { dst := some 71, op := Op.load 4 (Operand.tmp 70), type := 4, pos := "law.go:196", after := #[{ on := 0, ground := Ground.data }], guard := none }) (v := undef) rfl (by kernel_rfl) (by kernel_rfl) (by kernel_rfl) (fun _ _ _ h => h) (Or.inr ⟨by rfl, rfl⟩) (by assumption) ?_)
          | fail
        try simp only [Act.put, List.setIfInBounds_toArray, List.set_cons_zero, List.set_cons_succ]
        first
          | (refine wpAnyH_take (i := 2) (oi := { dst := some 72, op := Op.move (Operand.tmp 11), type := 4, pos := "law.go:196", after := #[], guard := none }) (v := ?_) rfl (by kernel_rfl) (by kernel_rfl) (by kernel_rfl) (fun _ _ _ h => h) (Or.inl ⟨by rfl, ?hy⟩) (by assumption) ?_; case hy => ((intro w hSw; (try dsimp only at hSw); go_simp); (try with_reducible rfl)))
          | (refine wpAnyH_take (i := 2) (oi := { dst := some 72, op := Op.move (Operand.tmp 11), type := 4, pos := "law.go:196", after := #[], guard := none }) (v := undef) rfl (by kernel_rfl) (by kernel_rfl) (by kernel_rfl) (fun _ _ _ h => h) (Or.inr ⟨by rfl, rfl⟩) (by assumption) ?_)
          | fail
        try simp only [Act.put, List.setIfInBounds_toArray, List.set_cons_zero, List.set_cons_succ]
        first
          | (refine wpAnyH_take (i := 3) (oi := { dst := some 73, op := Op.binOp BinOp.neq 4 (Operand.tmp 71) (Operand.tmp 72) 4, type := 4, pos := "law.go:196", after := #[{ on := 1, ground := Ground.data }, { on := 2, ground := Ground.data }], guard := none }) (v := ?_) rfl (by kernel_rfl) (by kernel_rfl) (by kernel_rfl) (fun _ _ _ h => h) (Or.inl ⟨by rfl, ?hy⟩) (by assumption) ?_; case hy => ((intro w hSw; (try dsimp only at hSw); go_simp); (try with_reducible rfl)))
          | (refine wpAnyH_take (i := 3) (oi := { dst := some 73, op := Op.binOp BinOp.neq 4 (Operand.tmp 71) (Operand.tmp 72) 4, type := 4, pos := "law.go:196", after := #[{ on := 1, ground := Ground.data }, { on := 2, ground := Ground.data }], guard := none }) (v := undef) rfl (by kernel_rfl) (by kernel_rfl) (by kernel_rfl) (fun _ _ _ h => h) (Or.inr ⟨by rfl, rfl⟩) (by assumption) ?_)
          | fail
        try simp only [Act.put, List.setIfInBounds_toArray, List.set_cons_zero, List.set_cons_succ]
        first
          | (refine wpAnyH_take (i := 4) (oi := { dst := some 74, op := Op.move (Operand.tmp 73), type := 4, pos := "law.go:196", after := #[{ on := 3, ground := Ground.data }], guard := none }) (v := ?_) rfl (by kernel_rfl) (by kernel_rfl) (by kernel_rfl) (fun _ _ _ h => h) (Or.inl ⟨by rfl, ?hy⟩) (by assumption) ?_; case hy => ((intro w hSw; (try dsimp only at hSw); go_simp); (try with_reducible rfl)))
          | (refine wpAnyH_take (i := 4) (oi := { dst := some 74, op := Op.move (Operand.tmp 73), type := 4, pos := "law.go:196", after := #[{ on := 3, ground := Ground.data }], guard := none }) (v := undef) rfl (by kernel_rfl) (by kernel_rfl) (by kernel_rfl) (fun _ _ _ h => h) (Or.inr ⟨by rfl, rfl⟩) (by assumption) ?_)
          | fail
        try simp only [Act.put, List.setIfInBounds_toArray, List.set_cons_zero, List.set_cons_succ]
        first
          | (refine wpAnyH_take (i := 5) (oi := { dst := some 75, op := Op.fieldAddr 34 (Operand.tmp 10) 2, type := 0, pos := "law.go:196", after := #[{ on := 4, ground := Ground.guard }], guard := some (4, false) }) (v := ?_) rfl (by kernel_rfl) (by kernel_rfl) (by kernel_rfl) (fun _ _ _ h => h) (Or.inl ⟨by rfl, ?hy⟩) (by assumption) ?_; case hy => ((intro w hSw; (try dsimp only at hSw); go_simp); (try with_reducible rfl)))
          | (refine wpAnyH_take (i := 5) (oi := { dst := some 75, op := Op.fieldAddr 34 (Operand.tmp 10) 2, type := 0, pos := "law.go:196", after := #[{ on := 4, ground := Ground.guard }], guard := some (4, false) }) (v := undef) rfl (by kernel_rfl) (by kernel_rfl) (by kernel_rfl) (fun _ _ _ h => h) (Or.inr ⟨by rfl, rfl⟩) (by assumption) ?_)
          | fail
        try simp only [Act.put, List.setIfInBounds_toArray, List.set_cons_zero, List.set_cons_succ]
        first
          | (refine wpAnyH_take (i := 6) (oi := { dst := some 76, op := Op.load 4 (Operand.tmp 75), type := 4, pos := "law.go:196", after := #[{ on := 5, ground := Ground.data }, { on := 4, ground := Ground.guard }], guard := some (4, false) }) (v := ?_) rfl (by kernel_rfl) (by kernel_rfl) (by kernel_rfl) (fun _ _ _ h => h) (Or.inl ⟨by rfl, ?hy⟩) (by assumption) ?_; case hy => ((intro w hSw; (try dsimp only at hSw); go_simp); (try with_reducible rfl)))
          | (refine wpAnyH_take (i := 6) (oi := { dst := some 76, op := Op.load 4 (Operand.tmp 75), type := 4, pos := "law.go:196", after := #[{ on := 5, ground := Ground.data }, { on := 4, ground := Ground.guard }], guard := some (4, false) }) (v := undef) rfl (by kernel_rfl) (by kernel_rfl) (by kernel_rfl) (fun _ _ _ h => h) (Or.inr ⟨by rfl, rfl⟩) (by assumption) ?_)
          | fail
        try simp only [Act.put, List.setIfInBounds_toArray, List.set_cons_zero, List.set_cons_succ]
        first
          | (refine wpAnyH_take (i := 7) (oi := { dst := some 77, op := Op.move (Operand.tmp 9), type := 3, pos := "law.go:196", after := #[{ on := 4, ground := Ground.guard }], guard := some (4, false) }) (v := ?_) rfl (by kernel_rfl) (by kernel_rfl) (by kernel_rfl) (fun _ _ _ h => h) (Or.inl ⟨by rfl, ?hy⟩) (by assumption) ?_; case hy => ((intro w hSw; (try dsimp only at hSw); go_simp); (try with_reducible rfl)))
          | (refine wpAnyH_take (i := 7) (oi := { dst := some 77, op := Op.move (Operand.tmp 9), type := 3, pos := "law.go:196", after := #[{ on := 4, ground := Ground.guard }], guard := some (4, false) }) (v := undef) rfl (by kernel_rfl) (by kernel_rfl) (by kernel_rfl) (fun _ _ _ h => h) (Or.inr ⟨by rfl, rfl⟩) (by assumption) ?_)
          | fail
        try simp only [Act.put, List.setIfInBounds_toArray, List.set_cons_zero, List.set_cons_succ]
        first
          | (refine wpAnyH_take (i := 8) (oi := { dst := some 78, op := Op.binOp BinOp.gtr 3 (Operand.tmp 77) (Operand.const (Value.int IntKind.i64 0)) 3, type := 4, pos := "law.go:196", after := #[{ on := 7, ground := Ground.data }, { on := 4, ground := Ground.guard }], guard := some (4, false) }) (v := ?_) rfl (by kernel_rfl) (by kernel_rfl) (by kernel_rfl) (fun _ _ _ h => h) (Or.inl ⟨by rfl, ?hy⟩) (by assumption) ?_; case hy => ((intro w hSw; (try dsimp only at hSw); go_simp); (try with_reducible rfl)))
          | (refine wpAnyH_take (i := 8) (oi := { dst := some 78, op := Op.binOp BinOp.gtr 3 (Operand.tmp 77) (Operand.const (Value.int IntKind.i64 0)) 3, type := 4, pos := "law.go:196", after := #[{ on := 7, ground := Ground.data }, { on := 4, ground := Ground.guard }], guard := some (4, false) }) (v := undef) rfl (by kernel_rfl) (by kernel_rfl) (by kernel_rfl) (fun _ _ _ h => h) (Or.inr ⟨by rfl, rfl⟩) (by assumption) ?_)
          | fail
        try simp only [Act.put, List.setIfInBounds_toArray, List.set_cons_zero, List.set_cons_succ]
        first
          | (refine wpAnyH_take (i := 9) (oi := { dst := some 79, op := Op.move (Operand.tmp 78), type := 4, pos := "law.go:196", after := #[{ on := 8, ground := Ground.data }, { on := 4, ground := Ground.chain }, { on := 4, ground := Ground.guard }], guard := some (4, false) }) (v := ?_) rfl (by kernel_rfl) (by kernel_rfl) (by kernel_rfl) (fun _ _ _ h => h) (Or.inl ⟨by rfl, ?hy⟩) (by assumption) ?_; case hy => ((intro w hSw; (try dsimp only at hSw); go_simp); (try with_reducible rfl)))
          | (refine wpAnyH_take (i := 9) (oi := { dst := some 79, op := Op.move (Operand.tmp 78), type := 4, pos := "law.go:196", after := #[{ on := 8, ground := Ground.data }, { on := 4, ground := Ground.chain }, { on := 4, ground := Ground.guard }], guard := some (4, false) }) (v := undef) rfl (by kernel_rfl) (by kernel_rfl) (by kernel_rfl) (fun _ _ _ h => h) (Or.inr ⟨by rfl, rfl⟩) (by assumption) ?_)
          | fail
        try simp only [Act.put, List.setIfInBounds_toArray, List.set_cons_zero, List.set_cons_succ]
        first
          | (refine wpAnyH_take (i := 10) (oi := { dst := some 80, op := Op.move (Operand.tmp 11), type := 4, pos := "law.go:196", after := #[{ on := 9, ground := Ground.guard }], guard := some (9, true) }) (v := ?_) rfl (by kernel_rfl) (by kernel_rfl) (by kernel_rfl) (fun _ _ _ h => h) (Or.inl ⟨by rfl, ?hy⟩) (by assumption) ?_; case hy => ((intro w hSw; (try dsimp only at hSw); go_simp); (try with_reducible rfl)))
          | (refine wpAnyH_take (i := 10) (oi := { dst := some 80, op := Op.move (Operand.tmp 11), type := 4, pos := "law.go:196", after := #[{ on := 9, ground := Ground.guard }], guard := some (9, true) }) (v := undef) rfl (by kernel_rfl) (by kernel_rfl) (by kernel_rfl) (fun _ _ _ h => h) (Or.inr ⟨by rfl, rfl⟩) (by assumption) ?_)
          | fail
        try simp only [Act.put, List.setIfInBounds_toArray, List.set_cons_zero, List.set_cons_succ]
        first
          | (refine wpAnyH_take (i := 11) (oi := { dst := some 81, op := Op.unOp UnOp.not 4 (Operand.tmp 80), type := 4, pos := "law.go:196", after := #[{ on := 10, ground := Ground.data }, { on := 9, ground := Ground.guard }], guard := some (9, true) }) (v := ?_) rfl (by kernel_rfl) (by kernel_rfl) (by kernel_rfl) (fun _ _ _ h => h) (Or.inl ⟨by rfl, ?hy⟩) (by assumption) ?_; case hy => ((intro w hSw; (try dsimp only at hSw); go_simp); (try with_reducible rfl)))
          | (refine wpAnyH_take (i := 11) (oi := { dst := some 81, op := Op.unOp UnOp.not 4 (Operand.tmp 80), type := 4, pos := "law.go:196", after := #[{ on := 10, ground := Ground.data }, { on := 9, ground := Ground.guard }], guard := some (9, true) }) (v := undef) rfl (by kernel_rfl) (by kernel_rfl) (by kernel_rfl) (fun _ _ _ h => h) (Or.inr ⟨by rfl, rfl⟩) (by assumption) ?_)
          | fail
        try simp only [Act.put, List.setIfInBounds_toArray, List.set_cons_zero, List.set_cons_succ]
        first
          | (refine wpAnyH_take (i := 12) (oi := { dst := some 82, op := Op.pick (Operand.tmp 79) (Operand.tmp 81) (Operand.const (Value.bool false)), type := 4, pos := "law.go:196", after := #[{ on := 9, ground := Ground.data }, { on := 11, ground := Ground.data }, { on := 4, ground := Ground.guard }], guard := some (4, false) }) (v := ?_) rfl (by kernel_rfl) (by kernel_rfl) (by kernel_rfl) (fun _ _ _ h => h) (Or.inl ⟨by rfl, ?hy⟩) (by assumption) ?_; case hy => ((intro w hSw; (try dsimp only at hSw); go_simp); (try with_reducible rfl)))
          | (refine wpAnyH_take (i := 12) (oi := { dst := some 82, op := Op.pick (Operand.tmp 79) (Operand.tmp 81) (Operand.const (Value.bool false)), type := 4, pos := "law.go:196", after := #[{ on := 9, ground := Ground.data }, { on := 11, ground := Ground.data }, { on := 4, ground := Ground.guard }], guard := some (4, false) }) (v := undef) rfl (by kernel_rfl) (by kernel_rfl) (by kernel_rfl) (fun _ _ _ h => h) (Or.inr ⟨by rfl, rfl⟩) (by assumption) ?_)
          | fail
        try simp only [Act.put, List.setIfInBounds_toArray, List.set_cons_zero, List.set_cons_succ]
        first
          | (refine wpAnyH_take (i := 13) (oi := { dst := some 83, op := Op.binOp BinOp.neq 4 (Operand.tmp 76) (Operand.tmp 82) 4, type := 4, pos := "law.go:196", after := #[{ on := 6, ground := Ground.data }, { on := 12, ground := Ground.data }, { on := 4, ground := Ground.guard }], guard := some (4, false) }) (v := ?_) rfl (by kernel_rfl) (by kernel_rfl) (by kernel_rfl) (fun _ _ _ h => h) (Or.inl ⟨by rfl, ?hy⟩) (by assumption) ?_; case hy => ((intro w hSw; (try dsimp only at hSw); go_simp); (try with_reducible rfl)))
          | (refine wpAnyH_take (i := 13) (oi := { dst := some 83, op := Op.binOp BinOp.neq 4 (Operand.tmp 76) (Operand.tmp 82) 4, type := 4, pos := "law.go:196", after := #[{ on := 6, ground := Ground.data }, { on := 12, ground := Ground.data }, { on := 4, ground := Ground.guard }], guard := some (4, false) }) (v := undef) rfl (by kernel_rfl) (by kernel_rfl) (by kernel_rfl) (fun _ _ _ h => h) (Or.inr ⟨by rfl, rfl⟩) (by assumption) ?_)
          | fail
        try simp only [Act.put, List.setIfInBounds_toArray, List.set_cons_zero, List.set_cons_succ]
        first
          | (refine wpAnyH_take (i := 14) (oi := { dst := some 84, op := Op.pick (Operand.tmp 74) (Operand.const (Value.bool true)) (Operand.tmp 83), type := 4, pos := "law.go:196", after := #[{ on := 4, ground := Ground.data }, { on := 13, ground := Ground.data }], guard := none }) (v := ?_) rfl (by kernel_rfl) (by kernel_rfl) (by kernel_rfl) (fun _ _ _ h => h) (Or.inl ⟨by rfl, ?hy⟩) (by assumption) ?_; case hy => ((intro w hSw; (try dsimp only at hSw); go_simp); (try with_reducible rfl)))
          | (refine wpAnyH_take (i := 14) (oi := { dst := some 84, op := Op.pick (Operand.tmp 74) (Operand.const (Value.bool true)) (Operand.tmp 83), type := 4, pos := "law.go:196", after := #[{ on := 4, ground := Ground.data }, { on := 13, ground := Ground.data }], guard := none }) (v := undef) rfl (by kernel_rfl) (by kernel_rfl) (by kernel_rfl) (fun _ _ _ h => h) (Or.inr ⟨by rfl, rfl⟩) (by assumption) ?_)
          | fail
        try simp only [Act.put, List.setIfInBounds_toArray, List.set_cons_zero, List.set_cons_succ]
        first
          | (refine wpAnyH_take (i := 15) (oi := { dst := some 85, op := Op.move (Operand.tmp 84), type := 4, pos := "law.go:196", after := #[{ on := 14, ground := Ground.data }, { on := 9, ground := Ground.chain }], guard := none }) (v := ?_) rfl (by kernel_rfl) (by kernel_rfl) (by kernel_rfl) (fun _ _ _ h => h) (Or.inl ⟨by rfl, ?hy⟩) (by assumption) ?_; case hy => ((intro w hSw; (try dsimp only at hSw); go_simp); (try with_reducible rfl)))
          | (refine wpAnyH_take (i := 15) (oi := { dst := some 85, op := Op.move (Operand.tmp 84), type := 4, pos := "law.go:196", after := #[{ on := 14, ground := Ground.data }, { on := 9, ground := Ground.chain }], guard := none }) (v := undef) rfl (by kernel_rfl) (by kernel_rfl) (by kernel_rfl) (fun _ _ _ h => h) (Or.inr ⟨by rfl, rfl⟩) (by assumption) ?_)
          | fail
        try simp only [Act.put, List.setIfInBounds_toArray, List.set_cons_zero, List.set_cons_succ]
        first
          | (refine wpAnyH_take (i := 16) (oi := { dst := some 86, op := Op.fieldAddr 34 (Operand.tmp 10) 2, type := 0, pos := "law.go:196", after := #[{ on := 15, ground := Ground.guard }], guard := some (15, false) }) (v := ?_) rfl (by kernel_rfl) (by kernel_rfl) (by kernel_rfl) (fun _ _ _ h => h) (Or.inl ⟨by rfl, ?hy⟩) (by assumption) ?_; case hy => ((intro w hSw; (try dsimp only at hSw); go_simp); (try with_reducible rfl)))
          | (refine wpAnyH_take (i := 16) (oi := { dst := some 86, op := Op.fieldAddr 34 (Operand.tmp 10) 2, type := 0, pos := "law.go:196", after := #[{ on := 15, ground := Ground.guard }], guard := some (15, false) }) (v := undef) rfl (by kernel_rfl) (by kernel_rfl) (by kernel_rfl) (fun _ _ _ h => h) (Or.inr ⟨by rfl, rfl⟩) (by assumption) ?_)
          | fail
        try simp only [Act.put, List.setIfInBounds_toArray, List.set_cons_zero, List.set_cons_succ]
        first
          | (refine wpAnyH_take (i := 17) (oi := { dst := some 87, op := Op.load 4 (Operand.tmp 86), type := 4, pos := "law.go:196", after := #[{ on := 16, ground := Ground.data }, { on := 15, ground := Ground.guard }], guard := some (15, false) }) (v := ?_) rfl (by kernel_rfl) (by kernel_rfl) (by kernel_rfl) (fun _ _ _ h => h) (Or.inl ⟨by rfl, ?hy⟩) (by assumption) ?_; case hy => ((intro w hSw; (try dsimp only at hSw); go_simp); (try with_reducible rfl)))
          | (refine wpAnyH_take (i := 17) (oi := { dst := some 87, op := Op.load 4 (Operand.tmp 86), type := 4, pos := "law.go:196", after := #[{ on := 16, ground := Ground.data }, { on := 15, ground := Ground.guard }], guard := some (15, false) }) (v := undef) rfl (by kernel_rfl) (by kernel_rfl) (by kernel_rfl) (fun _ _ _ h => h) (Or.inr ⟨by rfl, rfl⟩) (by assumption) ?_)
          | fail
        try simp only [Act.put, List.setIfInBounds_toArray, List.set_cons_zero, List.set_cons_succ]
        first
          | (refine wpAnyH_take (i := 18) (oi := { dst := some 88, op := Op.move (Operand.tmp 87), type := 4, pos := "law.go:196", after := #[{ on := 17, ground := Ground.data }, { on := 15, ground := Ground.chain }, { on := 15, ground := Ground.guard }], guard := some (15, false) }) (v := ?_) rfl (by kernel_rfl) (by kernel_rfl) (by kernel_rfl) (fun _ _ _ h => h) (Or.inl ⟨by rfl, ?hy⟩) (by assumption) ?_; case hy => ((intro w hSw; (try dsimp only at hSw); go_simp); (try with_reducible rfl)))
          | (refine wpAnyH_take (i := 18) (oi := { dst := some 88, op := Op.move (Operand.tmp 87), type := 4, pos := "law.go:196", after := #[{ on := 17, ground := Ground.data }, { on := 15, ground := Ground.chain }, { on := 15, ground := Ground.guard }], guard := some (15, false) }) (v := undef) rfl (by kernel_rfl) (by kernel_rfl) (by kernel_rfl) (fun _ _ _ h => h) (Or.inr ⟨by rfl, rfl⟩) (by assumption) ?_)
          | fail
        try simp only [Act.put, List.setIfInBounds_toArray, List.set_cons_zero, List.set_cons_succ]
        first
          | (refine wpAnyH_take (i := 19) (oi := { dst := some 89, op := Op.fieldAddr 34 (Operand.tmp 10) 1, type := 0, pos := "law.go:196", after := #[{ on := 18, ground := Ground.guard }], guard := some (18, true) }) (v := ?_) rfl (by kernel_rfl) (by kernel_rfl) (by kernel_rfl) (fun _ _ _ h => h) (Or.inl ⟨by rfl, ?hy⟩) (by assumption) ?_; case hy => ((intro w hSw; (try dsimp only at hSw); go_simp); (try with_reducible rfl)))
          | (refine wpAnyH_take (i := 19) (oi := { dst := some 89, op := Op.fieldAddr 34 (Operand.tmp 10) 1, type := 0, pos := "law.go:196", after := #[{ on := 18, ground := Ground.guard }], guard := some (18, true) }) (v := undef) rfl (by kernel_rfl) (by kernel_rfl) (by kernel_rfl) (fun _ _ _ h => h) (Or.inr ⟨by rfl, rfl⟩) (by assumption) ?_)
          | fail
        try simp only [Act.put, List.setIfInBounds_toArray, List.set_cons_zero, List.set_cons_succ]
        first
          | (refine wpAnyH_take (i := 20) (oi := { dst := some 90, op := Op.load 9 (Operand.tmp 89), type := 9, pos := "law.go:196", after := #[{ on := 19, ground := Ground.data }, { on := 18, ground := Ground.guard }], guard := some (18, true) }) (v := ?_) rfl (by kernel_rfl) (by kernel_rfl) (by kernel_rfl) (fun _ _ _ h => h) (Or.inl ⟨by rfl, ?hy⟩) (by assumption) ?_; case hy => ((intro w hSw; (try dsimp only at hSw); go_simp); (try with_reducible rfl)))
          | (refine wpAnyH_take (i := 20) (oi := { dst := some 90, op := Op.load 9 (Operand.tmp 89), type := 9, pos := "law.go:196", after := #[{ on := 19, ground := Ground.data }, { on := 18, ground := Ground.guard }], guard := some (18, true) }) (v := undef) rfl (by kernel_rfl) (by kernel_rfl) (by kernel_rfl) (fun _ _ _ h => h) (Or.inr ⟨by rfl, rfl⟩) (by assumption) ?_)
          | fail
        try simp only [Act.put, List.setIfInBounds_toArray, List.set_cons_zero, List.set_cons_succ]
        first
          | (refine wpAnyH_take (i := 21) (oi := { dst := some 91, op := Op.move (Operand.tmp 2), type := 23, pos := "law.go:196", after := #[{ on := 18, ground := Ground.guard }], guard := some (18, true) }) (v := ?_) rfl (by kernel_rfl) (by kernel_rfl) (by kernel_rfl) (fun _ _ _ h => h) (Or.inl ⟨by rfl, ?hy⟩) (by assumption) ?_; case hy => ((intro w hSw; (try dsimp only at hSw); go_simp); (try with_reducible rfl)))
          | (refine wpAnyH_take (i := 21) (oi := { dst := some 91, op := Op.move (Operand.tmp 2), type := 23, pos := "law.go:196", after := #[{ on := 18, ground := Ground.guard }], guard := some (18, true) }) (v := undef) rfl (by kernel_rfl) (by kernel_rfl) (by kernel_rfl) (fun _ _ _ h => h) (Or.inr ⟨by rfl, rfl⟩) (by assumption) ?_)
          | fail
        try simp only [Act.put, List.setIfInBounds_toArray, List.set_cons_zero, List.set_cons_succ]
        first
          | (refine wpAnyH_take (i := 22) (oi := { dst := some 92, op := Op.move (Operand.tmp 9), type := 3, pos := "law.go:196", after := #[{ on := 18, ground := Ground.guard }], guard := some (18, true) }) (v := ?_) rfl (by kernel_rfl) (by kernel_rfl) (by kernel_rfl) (fun _ _ _ h => h) (Or.inl ⟨by rfl, ?hy⟩) (by assumption) ?_; case hy => ((intro w hSw; (try dsimp only at hSw); go_simp); (try with_reducible rfl)))
          | (refine wpAnyH_take (i := 22) (oi := { dst := some 92, op := Op.move (Operand.tmp 9), type := 3, pos := "law.go:196", after := #[{ on := 18, ground := Ground.guard }], guard := some (18, true) }) (v := undef) rfl (by kernel_rfl) (by kernel_rfl) (by kernel_rfl) (fun _ _ _ h => h) (Or.inr ⟨by rfl, rfl⟩) (by assumption) ?_)
          | fail
        try simp only [Act.put, List.setIfInBounds_toArray, List.set_cons_zero, List.set_cons_succ]
        first
          | (refine wpAnyH_take (i := 23) (oi := { dst := some 93, op := Op.binOp BinOp.sub 3 (Operand.tmp 92) (Operand.const (Value.int IntKind.i64 1)) 3, type := 3, pos := "law.go:196", after := #[{ on := 22, ground := Ground.data }, { on := 18, ground := Ground.guard }], guard := some (18, true) }) (v := ?_) rfl (by kernel_rfl) (by kernel_rfl) (by kernel_rfl) (fun _ _ _ h => h) (Or.inl ⟨by rfl, ?hy⟩) (by assumption) ?_; case hy => ((intro w hSw; (try dsimp only at hSw); go_simp); (try with_reducible rfl)))
          | (refine wpAnyH_take (i := 23) (oi := { dst := some 93, op := Op.binOp BinOp.sub 3 (Operand.tmp 92) (Operand.const (Value.int IntKind.i64 1)) 3, type := 3, pos := "law.go:196", after := #[{ on := 22, ground := Ground.data }, { on := 18, ground := Ground.guard }], guard := some (18, true) }) (v := undef) rfl (by kernel_rfl) (by kernel_rfl) (by kernel_rfl) (fun _ _ _ h => h) (Or.inr ⟨by rfl, rfl⟩) (by assumption) ?_)
          | fail
        try simp only [Act.put, List.setIfInBounds_toArray, List.set_cons_zero, List.set_cons_succ]
        first
          | (refine wpAnyH_take (i := 24) (oi := { dst := some 94, op := Op.indexAddr 23 (Operand.tmp 91) (Operand.tmp 93), type := 0, pos := "law.go:196", after := #[{ on := 21, ground := Ground.data }, { on := 23, ground := Ground.data }, { on := 18, ground := Ground.guard }], guard := some (18, true) }) (v := ?_) rfl (by kernel_rfl) (by kernel_rfl) (by kernel_rfl) (fun _ _ _ h => h) (Or.inl ⟨by rfl, ?hy⟩) (by assumption) ?_; case hy => ((intro w hSw; (try dsimp only at hSw); go_simp); (try with_reducible rfl)))
          | (refine wpAnyH_take (i := 24) (oi := { dst := some 94, op := Op.indexAddr 23 (Operand.tmp 91) (Operand.tmp 93), type := 0, pos := "law.go:196", after := #[{ on := 21, ground := Ground.data }, { on := 23, ground := Ground.data }, { on := 18, ground := Ground.guard }], guard := some (18, true) }) (v := undef) rfl (by kernel_rfl) (by kernel_rfl) (by kernel_rfl) (fun _ _ _ h => h) (Or.inr ⟨by rfl, rfl⟩) (by assumption) ?_)
          | fail
        try simp only [Act.put, List.setIfInBounds_toArray, List.set_cons_zero, List.set_cons_succ]
        first
          | (refine wpAnyH_take (i := 25) (oi := { dst := some 95, op := Op.load 9 (Operand.tmp 94), type := 9, pos := "law.go:196", after := #[{ on := 24, ground := Ground.data }, { on := 18, ground := Ground.guard }], guard := some (18, true) }) (v := ?_) rfl (by kernel_rfl) (by kernel_rfl) (by kernel_rfl) (fun _ _ _ h => h) (Or.inl ⟨by rfl, ?hy⟩) (by assumption) ?_; case hy => ((intro w hSw; (try dsimp only at hSw); go_simp); (try with_reducible rfl)))
          | (refine wpAnyH_take (i := 25) (oi := { dst := some 95, op := Op.load 9 (Operand.tmp 94), type := 9, pos := "law.go:196", after := #[{ on := 24, ground := Ground.data }, { on := 18, ground := Ground.guard }], guard := some (18, true) }) (v := undef) rfl (by kernel_rfl) (by kernel_rfl) (by kernel_rfl) (fun _ _ _ h => h) (Or.inr ⟨by rfl, rfl⟩) (by assumption) ?_)
          | fail
        try simp only [Act.put, List.setIfInBounds_toArray, List.set_cons_zero, List.set_cons_succ]
        first
          | (refine wpAnyH_take (i := 26) (oi := { dst := some 96, op := Op.binOp BinOp.neq 9 (Operand.tmp 90) (Operand.tmp 95) 9, type := 4, pos := "law.go:196", after := #[{ on := 20, ground := Ground.data }, { on := 25, ground := Ground.data }, { on := 18, ground := Ground.guard }], guard := some (18, true) }) (v := ?_) rfl (by kernel_rfl) (by kernel_rfl) (by kernel_rfl) (fun _ _ _ h => h) (Or.inl ⟨by rfl, ?hy⟩) (by assumption) ?_; case hy => ((intro w hSw; (try dsimp only at hSw); go_simp); (try with_reducible rfl)))
          | (refine wpAnyH_take (i := 26) (oi := { dst := some 96, op := Op.binOp BinOp.neq 9 (Operand.tmp 90) (Operand.tmp 95) 9, type := 4, pos := "law.go:196", after := #[{ on := 20, ground := Ground.data }, { on := 25, ground := Ground.data }, { on := 18, ground := Ground.guard }], guard := some (18, true) }) (v := undef) rfl (by kernel_rfl) (by kernel_rfl) (by kernel_rfl) (fun _ _ _ h => h) (Or.inr ⟨by rfl, rfl⟩) (by assumption) ?_)
          | fail
        try simp only [Act.put, List.setIfInBounds_toArray, List.set_cons_zero, List.set_cons_succ]
        first
          | (refine wpAnyH_take (i := 27) (oi := { dst := some 97, op := Op.pick (Operand.tmp 88) (Operand.tmp 96) (Operand.const (Value.bool false)), type := 4, pos := "law.go:196", after := #[{ on := 18, ground := Ground.data }, { on := 26, ground := Ground.data }, { on := 15, ground := Ground.guard }], guard := some (15, false) }) (v := ?_) rfl (by kernel_rfl) (by kernel_rfl) (by kernel_rfl) (fun _ _ _ h => h) (Or.inl ⟨by rfl, ?hy⟩) (by assumption) ?_; case hy => ((intro w hSw; (try dsimp only at hSw); go_simp); (try with_reducible rfl)))
          | (refine wpAnyH_take (i := 27) (oi := { dst := some 97, op := Op.pick (Operand.tmp 88) (Operand.tmp 96) (Operand.const (Value.bool false)), type := 4, pos := "law.go:196", after := #[{ on := 18, ground := Ground.data }, { on := 26, ground := Ground.data }, { on := 15, ground := Ground.guard }], guard := some (15, false) }) (v := undef) rfl (by kernel_rfl) (by kernel_rfl) (by kernel_rfl) (fun _ _ _ h => h) (Or.inr ⟨by rfl, rfl⟩) (by assumption) ?_)
          | fail
        try simp only [Act.put, List.setIfInBounds_toArray, List.set_cons_zero, List.set_cons_succ]
        first
          | (refine wpAnyH_take (i := 28) (oi := { dst := some 98, op := Op.pick (Operand.tmp 85) (Operand.const (Value.bool true)) (Operand.tmp 97), type := 4, pos := "law.go:196", after := #[{ on := 15, ground := Ground.data }, { on := 27, ground := Ground.data }], guard := none }) (v := ?_) rfl (by kernel_rfl) (by kernel_rfl) (by kernel_rfl) (fun _ _ _ h => h) (Or.inl ⟨by rfl, ?hy⟩) (by assumption) ?_; case hy => ((intro w hSw; (try dsimp only at hSw); go_simp); (try with_reducible rfl)))
          | (refine wpAnyH_take (i := 28) (oi := { dst := some 98, op := Op.pick (Operand.tmp 85) (Operand.const (Value.bool true)) (Operand.tmp 97), type := 4, pos := "law.go:196", after := #[{ on := 15, ground := Ground.data }, { on := 27, ground := Ground.data }], guard := none }) (v := undef) rfl (by kernel_rfl) (by kernel_rfl) (by kernel_rfl) (fun _ _ _ h => h) (Or.inr ⟨by rfl, rfl⟩) (by assumption) ?_)
          | fail
        try simp only [Act.put, List.setIfInBounds_toArray, List.set_cons_zero, List.set_cons_succ]
        first
          | (refine wpAnyH_take (i := 29) (oi := { dst := some 99, op := Op.move (Operand.tmp 98), type := 4, pos := "law.go:196", after := #[{ on := 28, ground := Ground.data }, { on := 18, ground := Ground.chain }], guard := none }) (v := ?_) rfl (by kernel_rfl) (by kernel_rfl) (by kernel_rfl) (fun _ _ _ h => h) (Or.inl ⟨by rfl, ?hy⟩) (by assumption) ?_; case hy => ((intro w hSw; (try dsimp only at hSw); go_simp); (try with_reducible rfl)))
          | (refine wpAnyH_take (i := 29) (oi := { dst := some 99, op := Op.move (Operand.tmp 98), type := 4, pos := "law.go:196", after := #[{ on := 28, ground := Ground.data }, { on := 18, ground := Ground.chain }], guard := none }) (v := undef) rfl (by kernel_rfl) (by kernel_rfl) (by kernel_rfl) (fun _ _ _ h => h) (Or.inr ⟨by rfl, rfl⟩) (by assumption) ?_)
          | fail
        try simp only [Act.put, List.setIfInBounds_toArray, List.set_cons_zero, List.set_cons_succ]
        first
          | (refine wpAnyH_take (i := 30) (oi := { dst := some 100, op := Op.move (Operand.tmp 7), type := 25, pos := "law.go:196", after := #[{ on := 29, ground := Ground.guard }], guard := some (29, false) }) (v := ?_) rfl (by kernel_rfl) (by kernel_rfl) (by kernel_rfl) (fun _ _ _ h => h) (Or.inl ⟨by rfl, ?hy⟩) (by assumption) ?_; case hy => ((intro w hSw; (try dsimp only at hSw); go_simp); (try with_reducible rfl)))
          | (refine wpAnyH_take (i := 30) (oi := { dst := some 100, op := Op.move (Operand.tmp 7), type := 25, pos := "law.go:196", after := #[{ on := 29, ground := Ground.guard }], guard := some (29, false) }) (v := undef) rfl (by kernel_rfl) (by kernel_rfl) (by kernel_rfl) (fun _ _ _ h => h) (Or.inr ⟨by rfl, rfl⟩) (by assumption) ?_)
          | fail
        try simp only [Act.put, List.setIfInBounds_toArray, List.set_cons_zero, List.set_cons_succ]
        first
          | (refine wpAnyH_take (i := 32) (oi := { dst := some 102, op := Op.move (Operand.tmp 2), type := 23, pos := "law.go:196", after := #[{ on := 29, ground := Ground.guard }], guard := some (29, false) }) (v := ?_) rfl (by kernel_rfl) (by kernel_rfl) (by kernel_rfl) (fun _ _ _ h => h) (Or.inl ⟨by rfl, ?hy⟩) (by assumption) ?_; case hy => ((intro w hSw; (try dsimp only at hSw); go_simp); (try with_reducible rfl)))
          | (refine wpAnyH_take (i := 32) (oi := { dst := some 102, op := Op.move (Operand.tmp 2), type := 23, pos := "law.go:196", after := #[{ on := 29, ground := Ground.guard }], guard := some (29, false) }) (v := undef) rfl (by kernel_rfl) (by kernel_rfl) (by kernel_rfl) (fun _ _ _ h => h) (Or.inr ⟨by rfl, rfl⟩) (by assumption) ?_)
          | fail
        try simp only [Act.put, List.setIfInBounds_toArray, List.set_cons_zero, List.set_cons_succ]
        first
          | (refine wpAnyH_take (i := 33) (oi := { dst := some 103, op := Op.move (Operand.tmp 9), type := 3, pos := "law.go:196", after := #[{ on := 29, ground := Ground.guard }], guard := some (29, false) }) (v := ?_) rfl (by kernel_rfl) (by kernel_rfl) (by kernel_rfl) (fun _ _ _ h => h) (Or.inl ⟨by rfl, ?hy⟩) (by assumption) ?_; case hy => ((intro w hSw; (try dsimp only at hSw); go_simp); (try with_reducible rfl)))
          | (refine wpAnyH_take (i := 33) (oi := { dst := some 103, op := Op.move (Operand.tmp 9), type := 3, pos := "law.go:196", after := #[{ on := 29, ground := Ground.guard }], guard := some (29, false) }) (v := undef) rfl (by kernel_rfl) (by kernel_rfl) (by kernel_rfl) (fun _ _ _ h => h) (Or.inr ⟨by rfl, rfl⟩) (by assumption) ?_)
          | fail
        try simp only [Act.put, List.setIfInBounds_toArray, List.set_cons_zero, List.set_cons_succ]
        first
          | (refine wpAnyH_take (i := 34) (oi := { dst := some 104, op := Op.indexAddr 23 (Operand.tmp 102) (Operand.tmp 103), type := 0, pos := "law.go:196", after := #[{ on := 32, ground := Ground.data }, { on := 33, ground := Ground.data }, { on := 29, ground := Ground.guard }], guard := some (29, false) }) (v := ?_) rfl (by kernel_rfl) (by kernel_rfl) (by kernel_rfl) (fun _ _ _ h => h) (Or.inl ⟨by rfl, ?hy⟩) (by assumption) ?_; case hy => ((intro w hSw; (try dsimp only at hSw); go_simp); (try with_reducible rfl)))
          | (refine wpAnyH_take (i := 34) (oi := { dst := some 104, op := Op.indexAddr 23 (Operand.tmp 102) (Operand.tmp 103), type := 0, pos := "law.go:196", after := #[{ on := 32, ground := Ground.data }, { on := 33, ground := Ground.data }, { on := 29, ground := Ground.guard }], guard := some (29, false) }) (v := undef) rfl (by kernel_rfl) (by kernel_rfl) (by kernel_rfl) (fun _ _ _ h => h) (Or.inr ⟨by rfl, rfl⟩) (by assumption) ?_)
          | fail
        try simp only [Act.put, List.setIfInBounds_toArray, List.set_cons_zero, List.set_cons_succ]
        first
          | (refine wpAnyH_take (i := 35) (oi := { dst := some 105, op := Op.load 9 (Operand.tmp 104), type := 9, pos := "law.go:196", after := #[{ on := 34, ground := Ground.data }, { on := 29, ground := Ground.guard }], guard := some (29, false) }) (v := ?_) rfl (by kernel_rfl) (by kernel_rfl) (by kernel_rfl) (fun _ _ _ h => h) (Or.inl ⟨by rfl, ?hy⟩) (by assumption) ?_; case hy => ((intro w hSw; (try dsimp only at hSw); go_simp); (try with_reducible rfl)))
          | (refine wpAnyH_take (i := 35) (oi := { dst := some 105, op := Op.load 9 (Operand.tmp 104), type := 9, pos := "law.go:196", after := #[{ on := 34, ground := Ground.data }, { on := 29, ground := Ground.guard }], guard := some (29, false) }) (v := undef) rfl (by kernel_rfl) (by kernel_rfl) (by kernel_rfl) (fun _ _ _ h => h) (Or.inr ⟨by rfl, rfl⟩) (by assumption) ?_)
          | fail
        try simp only [Act.put, List.setIfInBounds_toArray, List.set_cons_zero, List.set_cons_succ]
        refine wpAnyH_ready (rs := [31, 36]) (by kernel_rfl) (by simp) ?_
        refine AllReadyH.cons (o := { dst := some 101, op := Op.call { callee := Callee.value (Operand.func 14), args := #[Operand.tmp 100], argTypes := #[25] }, type := 23, pos := "law.go:196", after := #[{ on := 30, ground := Ground.data }, { on := 29, ground := Ground.chain }, { on := 29, ground := Ground.guard }], guard := some (29, false) }) rfl (fun K hK => ?_) ?_
        · go_simp
          go_wp2_with (go_at_call 14; (with_reducible refine (hKk.out _ _ (Holds.p1 h6d.out)).mono ?_); rintro r w13 ⟨ao, cap, rfl, h13⟩; have h13 := hide h13)
          refine hK.out _ _ ?_ (fun hHeld2 => ?_)
          · exact hS.out _ _ h13.out.toKeep (Holds.p2 h13.out)
          clear hK K
          try simp only [Act.put, List.setIfInBounds_toArray, List.set_cons_zero, List.set_cons_succ]
          refine wpAnyH_ready (rs := [36]) (by kernel_rfl) (by simp) ?_
          refine AllReadyH.cons (o := { dst := some 106, op := Op.buildSlice 23 1 #[(0, Operand.tmp 105)], type := 23, pos := "law.go:196", after := #[{ on := 35, ground := Ground.data }, { on := 29, ground := Ground.guard }], guard := some (29, false) }) rfl (fun K hK => ?_) ?_
          · go_simp
            have h14 := hide (h13.out.alloc (o := .cells #[.string key] 9))
            refine hK.out _ _ ?_ (fun hHeld2 => ?_)
            · exact hS.out _ _ h14.out.toKeep (Holds.p3 h14.out)
            clear hK K
            try simp only [Act.put, List.setIfInBounds_toArray, List.set_cons_zero, List.set_cons_succ]
            refine wpAnyH_ready (rs := [37]) (by kernel_rfl) (by simp) ?_
            have ra := hide (Holds.strsAt (Holds.p1 h14.out))
            have rb : Hide (RowAt _ (.slice (some ⟨w13.heap.size, 0, none⟩) 1 1) (strs [key])) := ⟨Holds.strsAt (Holds.one h14.out)⟩
            refine AllReadyH.cons (o := { dst := some 107, op := Op.call { callee := Callee.value (Operand.func 20), args := #[Operand.tmp 101, Operand.tmp 106], argTypes := #[23, 23] }, type := 4, pos := "law.go:196", after := #[{ on := 31, ground := Ground.data }, { on := 36, ground := Ground.data }, { on := 31, ground := Ground.chain }, { on := 29, ground := Ground.guard }], guard := some (29, false) }) rfl (fun K hK => ?_) ?_
            · go_simp
              go_wp2_with (go_at_call 20; (with_reducible refine (hSm.out _ _ _ ra.out rb.out).mono ?_); rintro r w15 ⟨rfl, dn, rfl⟩; have h15 := hide (h14.out.drewN (n := dn)))
              refine hK.out _ _ ?_ (fun hHeld2 => ?_)
              · exact hS.out _ _ h15.out.toKeep (Holds.p3 h15.out)
              clear hK K
              try simp only [Act.put, List.setIfInBounds_toArray, List.set_cons_zero, List.set_cons_succ]
              first
                | (refine wpAnyH_take (i := 38) (oi := { dst := some 108, op := Op.unOp UnOp.not 4 (Operand.tmp 107), type := 4, pos := "law.go:196", after := #[{ on := 37, ground := Ground.data }, { on := 29, ground := Ground.guard }], guard := some (29, false) }) (v := ?_) rfl (by kernel_rfl) (by kernel_rfl) (by kernel_rfl) (fun _ _ _ h => h) (Or.inl ⟨by rfl, ?hy⟩) (by assumption) ?_; case hy => ((intro w hSw; (try dsimp only at hSw); go_simp); (try with_reducible rfl)))
                | (refine wpAnyH_take (i := 38) (oi := { dst := some 108, op := Op.unOp UnOp.not 4 (Operand.tmp 107), type := 4, pos := "law.go:196", after := #[{ on := 37, ground := Ground.data }, { on := 29, ground := Ground.guard }], guard := some (29, false) }) (v := undef) rfl (by kernel_rfl) (by kernel_rfl) (by kernel_rfl) (fun _ _ _ h => h) (Or.inr ⟨by rfl, rfl⟩) (by assumption) ?_)
                | fail
              try simp only [Act.put, List.setIfInBounds_toArray, List.set_cons_zero, List.set_cons_succ]
              first
                | (refine wpAnyH_take (i := 39) (oi := { dst := some 109, op := Op.pick (Operand.tmp 99) (Operand.const (Value.bool true)) (Operand.tmp 108), type := 4, pos := "law.go:196", after := #[{ on := 29, ground := Ground.data }, { on := 38, ground := Ground.data }], guard := none }) (v := ?_) rfl (by kernel_rfl) (by kernel_rfl) (by kernel_rfl) (fun _ _ _ h => h) (Or.inl ⟨by rfl, ?hy⟩) (by assumption) ?_; case hy => ((intro w hSw; (try dsimp only at hSw); go_simp); (try with_reducible rfl)))
                | (refine wpAnyH_take (i := 39) (oi := { dst := some 109, op := Op.pick (Operand.tmp 99) (Operand.const (Value.bool true)) (Operand.tmp 108), type := 4, pos := "law.go:196", after := #[{ on := 29, ground := Ground.data }, { on := 38, ground := Ground.data }], guard := none }) (v := undef) rfl (by kernel_rfl) (by kernel_rfl) (by kernel_rfl) (fun _ _ _ h => h) (Or.inr ⟨by rfl, rfl⟩) (by assumption) ?_)
                | fail
              try simp only [Act.put, List.setIfInBounds_toArray, List.set_cons_zero, List.set_cons_succ]
              refine wpAnyH_done (by kernel_rfl) ?_ _
              clear hHeld hHeld2
              go_wp2; (go_roundg (n - (i + 1))); (case measure => (rw [← hci.out]; omega)); (case rel => exact ⟨i + 1, y, u, ⟨rfl⟩, by omega, rfl, hIy, h15.out.drop.drop.p1.drop⟩)
            exact AllReadyH.nil
          exact AllReadyH.nil
        refine AllReadyH.cons (o := { dst := some 106, op := Op.buildSlice 23 1 #[(0, Operand.tmp 105)], type := 23, pos := "law.go:196", after := #[{ on := 35, ground := Ground.data }, { on := 29, ground := Ground.guard }], guard := some (29, false) }) rfl (fun K hK => ?_) ?_
        · go_simp
          have h14 := hide ((hQ.out.alloc (o := .cells #[.string key] 9)).drew)
          refine hK.out _ _ ?_ (fun hHeld2 => ?_)
          · exact hS.out _ _ h14.out.toKeep (Holds.p1 h14.out)
          clear hK K
          try simp only [Act.put, List.setIfInBounds_toArray, List.set_cons_zero, List.set_cons_succ]
          refine wpAnyH_ready (rs := [31]) (by kernel_rfl) (by simp) ?_
          refine AllReadyH.cons (o := { dst := some 101, op := Op.call { callee := Callee.value (Operand.func 14), args := #[Operand.tmp 100], argTypes := #[25] }, type := 23, pos := "law.go:196", after := #[{ on := 30, ground := Ground.data }, { on := 29, ground := Ground.chain }, { on := 29, ground := Ground.guard }], guard := some (29, false) }) rfl (fun K hK => ?_) ?_
          · go_simp
            go_wp2_with (go_at_call 14; (with_reducible refine (hKk.out _ _ (Holds.p2 h14.out)).mono ?_); rintro r w13 ⟨ao, cap, rfl, h13⟩; have h13 := hide h13)
            refine hK.out _ _ ?_ (fun hHeld2 => ?_)
            · exact hS.out _ _ h13.out.toKeep (Holds.p3 h13.out)
            clear hK K
            try simp only [Act.put, List.setIfInBounds_toArray, List.set_cons_zero, List.set_cons_succ]
            refine wpAnyH_ready (rs := [37]) (by kernel_rfl) (by simp) ?_
            have ra := hide (Holds.strsAt h13.out)
            have rb : Hide (RowAt _ (.slice (some ⟨uq.world.heap.size, 0, none⟩) 1 1) (strs [key])) := ⟨Holds.strsAt (Holds.one (Holds.p2 h13.out))⟩
            refine AllReadyH.cons (o := { dst := some 107, op := Op.call { callee := Callee.value (Operand.func 20), args := #[Operand.tmp 101, Operand.tmp 106], argTypes := #[23, 23] }, type := 4, pos := "law.go:196", after := #[{ on := 31, ground := Ground.data }, { on := 36, ground := Ground.data }, { on := 31, ground := Ground.chain }, { on := 29, ground := Ground.guard }], guard := some (29, false) }) rfl (fun K hK => ?_) ?_
            · go_simp
              go_wp2_with (go_at_call 20; (with_reducible refine (hSm.out _ _ _ ra.out rb.out).mono ?_); rintro r w15 ⟨rfl, dn, rfl⟩; have h15 := hide (h13.out.drewN (n := dn)).p2)
              refine hK.out _ _ ?_ (fun hHeld2 => ?_)
              · exact hS.out _ _ h15.out.toKeep (Holds.p3 h15.out)
              clear hK K
              try simp only [Act.put, List.setIfInBounds_toArray, List.set_cons_zero, List.set_cons_succ]
              first
                | (refine wpAnyH_take (i := 38) (oi := { dst := some 108, op := Op.unOp UnOp.not 4 (Operand.tmp 107), type := 4, pos := "law.go:196", after := #[{ on := 37, ground := Ground.data }, { on := 29, ground := Ground.guard }], guard := some (29, false) }) (v := ?_) rfl (by kernel_rfl) (by kernel_rfl) (by kernel_rfl) (fun _ _ _ h => h) (Or.inl ⟨by rfl, ?hy⟩) (by assumption) ?_; case hy => ((intro w hSw; (try dsimp only at hSw); go_simp); (try with_reducible rfl)))
                | (refine wpAnyH_take (i := 38) (oi := { dst := some 108, op := Op.unOp UnOp.not 4 (Operand.tmp 107), type := 4, pos := "law.go:196", after := #[{ on := 37, ground := Ground.data }, { on := 29, ground := Ground.guard }], guard := some (29, false) }) (v := undef) rfl (by kernel_rfl) (by kernel_rfl) (by kernel_rfl) (fun _ _ _ h => h) (Or.inr ⟨by rfl, rfl⟩) (by assumption) ?_)
                | fail
              try simp only [Act.put, List.setIfInBounds_toArray, List.set_cons_zero, List.set_cons_succ]
              first
                | (refine wpAnyH_take (i := 39) (oi := { dst := some 109, op := Op.pick (Operand.tmp 99) (Operand.const (Value.bool true)) (Operand.tmp 108), type := 4, pos := "law.go:196", after := #[{ on := 29, ground := Ground.data }, { on := 38, ground := Ground.data }], guard := none }) (v := ?_) rfl (by kernel_rfl) (by kernel_rfl) (by kernel_rfl) (fun _ _ _ h => h) (Or.inl ⟨by rfl, ?hy⟩) (by assumption) ?_; case hy => ((intro w hSw; (try dsimp only at hSw); go_simp); (try with_reducible rfl)))
                | (refine wpAnyH_take (i := 39) (oi := { dst := some 109, op := Op.pick (Operand.tmp 99) (Operand.const (Value.bool true)) (Operand.tmp 108), type := 4, pos := "law.go:196", after := #[{ on := 29, ground := Ground.data }, { on := 38, ground := Ground.data }], guard := none }) (v := undef) rfl (by kernel_rfl) (by kernel_rfl) (by kernel_rfl) (fun _ _ _ h => h) (Or.inr ⟨by rfl, rfl⟩) (by assumption) ?_)
                | fail
              try simp only [Act.put, List.setIfInBounds_toArray, List.set_cons_zero, List.set_cons_succ]
              refine wpAnyH_done (by kernel_rfl) ?_ _
              clear hHeld hHeld2
              go_wp2; (go_roundg (n - (i + 1))); (case measure => (rw [← hci.out]; omega)); (case rel => exact ⟨i + 1, y, u, ⟨rfl⟩, by omega, rfl, hIy, h15.out.drop.drop.p1.drop⟩)
            exact AllReadyH.nil
          exact AllReadyH.nil
        exact AllReadyH.nil
    · obtain rfl : i = n := by omega
      have hlt' : ¬ (i : Int) < i := by omega
      go_wp2
      go_ret
      exact ⟨rfl, h3.out.nil⟩
end Go.Proofs.YtbbdimlpofjlfaaGreatDoor
