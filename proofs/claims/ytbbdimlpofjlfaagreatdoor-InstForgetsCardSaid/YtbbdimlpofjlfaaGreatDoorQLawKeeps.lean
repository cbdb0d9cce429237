/- The law InstKeeps: its walk. -/
import Derived.Test.YtbbdimlpofjlfaaGreatDoorQRefs10
import Derived.Deep.DeepCutAuto
namespace Go.Proofs.YtbbdimlpofjlfaaGreatDoor
open Go Go.RowKit

set_option maxRecDepth 100000
set_option maxHeartbeats 4000000
/-- What a request tells, in one shape. -/
theorem Asked.fields {R R' : List ByteArray} {m : Nat} {k : ByteArray} {st : Stp} (h : Asked R R' m k st) (hm : m ≠ 0) :
    st.hit = decide (k ∈ R) ∧ st.out = (!decide (k ∈ R) && decide (R.length = m)) ∧ k ∈ R' ∧ (st.out = true → st.victim ∈ R ∧ st.victim ∉ R' ∧ st.victim ≠ k) ∧ (st.out = false → st.victim = bNil) ∧ (∀ c ∈ R, c ∉ R' → st.out = true ∧ c = st.victim) := by
  cases h with
  | hit hk res => exact ⟨by simp [hk], by simp [hk], (res k).2 hk, (fun h => by cases h), fun _ => rfl, fun c hc hn => absurd ((res c).2 hc) hn⟩
  | less hk hl2 res => exact ⟨by simp [hk], by simp [hk]; omega, (res k).2 (.inl rfl), (fun h => by cases h), fun _ => rfl, fun c hc hn => absurd ((res c).2 (.inr hc)) hn⟩
  | full v hk h0 hl2 hv res =>
    have hvk : v ≠ k := fun e => hk (e ▸ hv)
    refine ⟨by simp [hk], by simp [hk, hl2], (res k).2 (.inl rfl), fun _ => ⟨hv, fun hc => ?_, hvk⟩, (fun h => by cases h), fun c hc hn => ⟨rfl, ?_⟩⟩
    · rcases (res v).1 hc with h | h
      · exact hvk h
      · exact h.2 rfl
    · by_cases e : c = v
      · exact e
      · exact absurd ((res c).2 (.inr ⟨hc, e⟩)) hn
  | zero h0 => exact absurd h0 hm
theorem walk_InstKeeps (kind most : Int) (vl vk : Value) (lane : List Nat) (keys : List ByteArray) (W : World) (hE : Env W) (hl : RowR W vl (nums64 lane)) (hll : ∀ x ∈ lane, x < 18446744073709551616) (hk : RowR W vk (strs keys)) :
    Calls Tryz.prog 3 #[.int .i64 kind, .int .i64 most, vl, vk] W fun e w' => e = .returned (.bool true) ∧ Holds W w' [] := by
  have hE := hide hE
  obtain ⟨al, cl, hvl⟩ := hl.shape
  obtain ⟨ak, ck, hvk⟩ := hk.shape
  rw [nums64_length] at hvl
  rw [strs_length] at hvk
  subst hvl
  subst hvk
  obtain ⟨N, hN⟩ : ∃ N, lane.length = N := ⟨_, rfl⟩
  obtain ⟨n, hn⟩ : ∃ n, keys.length = n := ⟨_, rfl⟩
  rw [hN] at hl ⊢
  rw [hn] at hk ⊢
  replace hN := hide hN
  replace hn := hide hn
  replace hl := hide hl
  replace hk := hide hk
  replace hll := hide hll
  have h0 := hide (Holds.start W)
  by_cases g1 : kind < 0
  · go_enter Tryz.func3, Tryz.ntmps3
    go_wp2_with (go_at_call 11; (with_reducible refine (awake11 W hE.out).mono ?_); rintro r w1 ⟨rfl, k1⟩)
    go_ret
    exact ⟨rfl, h0.out.keep k1⟩
  by_cases g2 : 6 < kind
  · go_enter Tryz.func3, Tryz.ntmps3
    go_wp2_with (go_at_call 11; (with_reducible refine (awake11 W hE.out).mono ?_); rintro r w1 ⟨rfl, k1⟩)
    go_ret
    exact ⟨rfl, h0.out.keep k1⟩
  by_cases g3 : most < 1
  · go_enter Tryz.func3, Tryz.ntmps3
    go_wp2_with (go_at_call 11; (with_reducible refine (awake11 W hE.out).mono ?_); rintro r w1 ⟨rfl, k1⟩)
    go_ret
    exact ⟨rfl, h0.out.keep k1⟩
  by_cases g4 : 1000 < most
  · go_enter Tryz.func3, Tryz.ntmps3
    go_wp2_with (go_at_call 11; (with_reducible refine (awake11 W hE.out).mono ?_); rintro r w1 ⟨rfl, k1⟩)
    go_ret
    exact ⟨rfl, h0.out.keep k1⟩
  by_cases g5 : 200 < n
  · have g5' : (200 : Int) < n := by omega
    go_enter Tryz.func3, Tryz.ntmps3
    go_wp2_with (go_at_call 11; (with_reducible refine (awake11 W hE.out).mono ?_); rintro r w1 ⟨rfl, k1⟩)
    go_ret
    exact ⟨rfl, h0.out.keep k1⟩
  have g5' : ¬ (200 : Int) < n := by omega
  by_cases g6 : 300 < N
  · have g6' : (300 : Int) < N := by omega
    go_enter Tryz.func3, Tryz.ntmps3
    go_wp2_with (go_at_call 11; (with_reducible refine (awake11 W hE.out).mono ?_); rintro r w1 ⟨rfl, k1⟩)
    go_ret
    exact ⟨rfl, h0.out.keep k1⟩
  have g6' : ¬ (300 : Int) < N := by omega
  obtain ⟨m, rfl⟩ : ∃ m : Nat, most = m := ⟨most.toNat, by omega⟩
  obtain ⟨kd, rfl⟩ : ∃ m : Nat, kind = m := ⟨kind.toNat, by omega⟩
  have hkd : Hide (kd < 7) := ⟨by omega⟩
  have hm : Hide (0 < m ∧ m ≤ 1000) := ⟨by omega⟩
  have hNl : Hide (lane.length ≤ 300) := ⟨by rw [hN.out]; omega⟩
  have hnl : Hide (n ≤ 200) := ⟨by omega⟩
  have htk : Hide (tOk [lane]) := ⟨by intro l hl x hx; rw [List.mem_singleton] at hl; subst hl; exact hll.out x hx⟩
  go_enter Tryz.func3, Tryz.ntmps3
  go_wp2_with (first
    | (go_at_call 11; (with_reducible refine (awake11 W hE.out).mono ?_); rintro r w1 ⟨rfl, k1⟩; have k1 := hide k1)
    | (go_at_call 13; (with_reducible refine (Draw_One _ lane (by have := hNl.out; omega) (fun wx hx => hl.out.keep hx.toKeep) (h0.out.keep k1.out)).mono ?_); rintro r w2 ⟨tb, rfl, h2⟩; have h2 := hide h2)
    | (go_at_call 12; (with_reducible refine (In_NewK (tb := tb) kd hkd.out m (by have := hm.out; omega) h2.out).mono ?_); rintro r w3 ⟨b, rfl, h3⟩; have h3 := hide h3))
  have hI0 := hide (IGood.new kd m 0 hkd.out (by have := hm.out; omega) [lane] htk.out)
  clear g1 g2 g3 g4 g5 g6 g5' g6'
  go_loopg [11, 12] (n) (fun c v z wr => ∃ i x t, Hide (n - i = c) ∧ i ≤ n ∧ z = .int .i64 (i : Nat) ∧ Hide (IGood m i x t) ∧ Hide (x.n = (i : Nat)) ∧ v = .int .i64 x.h ∧ Holds W wr (IsIn b tb x :: IsTape tb t :: []))
  case atStart => exact ⟨0, ⟨Ca.new kd m 0, 0, 0⟩, [lane], ⟨rfl⟩, Nat.zero_le _, rfl, hI0, ⟨rfl⟩, rfl, h3.out⟩
  case round =>
    clear h3 hI0
    obtain ⟨i, x, t, hci, hin, rfl, hI, hxn, rfl, hh⟩ := hrel
    have h3 := hide hh
    clear hh
    by_cases hlt : i < n
    · have hlt' : (i : Int) < n := by omega
      have hnl2 := hnl.out
      have hi2 := hide (show i < 20000 by omega)
      have e1 : IntKind.i64.wrap ((i : Int) + 1) = ((i + 1 : Nat) : Int) := by rw [IntWalk.i64_in _ (by omega)]; omega
      obtain ⟨key, hx⟩ : ∃ x, keys[i]? = some x := ⟨_, List.getElem?_eq_getElem (by rw [hn.out]; exact hlt)⟩
      obtain ⟨bk, ok, hak, cW⟩ := RowR.strCell hk.out hx
      subst hak
      have cx := h3.out.toKeep.cell cW
      replace cW := hide cW
      replace hx := hide hx
      by_cases hks : 200 < key.size
      · have hks' : (200 : Int) < key.size := by omega
        clear hks
        go_wp2
        go_ret
        exact ⟨rfl, h3.out.nil⟩
      · have hks' : ¬ (200 : Int) < key.size := by omega
        clear hks
        obtain ⟨R, hR⟩ : ∃ R, x.c.res.length = R := ⟨_, rfl⟩
        have hRm : R ≤ m := by rw [← hR, ← hI.out.most]; exact hI.out.inv.le
        have hmm := hm.out
        have hRm2 := hide hRm
        have cK := hide (fun (w : World) (L : List SProp) (h : Holds W w (IsIn b tb x :: L)) => by have c := In_KeysI hI.out (by omega) h; rw [hR] at c; exact c)
        go_upto_region 15 with (go_at_call 14; (with_reducible refine (cK.out _ _ h3.out).mono ?_); rintro r w4 ⟨ao, cap, rfl, h4⟩; have cx4 := h4.toKeep.cell cW.out; have h4 := hide h4)
        obtain ⟨⟨y, u, ⟨hit, v, out⟩⟩, hr⟩ : ∃ r, x.req t key = r := ⟨_, rfl⟩
        have hA := (Ca.asked hI.out.inv t key).2
        obtain ⟨f1, f2, f3, f4, f5, f6⟩ := hA.fields (by rw [hI.out.most]; omega)
        have hIy := hI.out.req key
        have hst : (x.c.req t key).2.2 = ⟨hit, v, out⟩ := congrArg (fun q => q.2.2) hr
        have hyc : (x.c.req t key).1 = y.c := congrArg (fun q => q.1.c) hr
        have hyn : y.n = ((i + 1 : Nat) : Int) := by have : x.n + 1 = y.n := congrArg (fun q => q.1.n) hr; rw [← this, hxn.out]; omega
        have hyh : y.h = if hit = true then x.h + 1 else x.h := by
          have : (if (x.c.req t key).2.2.hit = true then x.h + 1 else x.h) = y.h := congrArg (fun q => q.1.h) hr
          rw [← this, hst]
        rw [hr] at hIy
        simp only [hst, hyc] at f1 f2 f3 f4 f5 f6
        dsimp only at hIy
        rw [hI.out.most, hR] at f2
        obtain ⟨d, hd⟩ : ∃ d, decide (key ∈ x.c.res) = d := ⟨_, rfl⟩
        rw [hd] at f1 f2
        subst f1
        have hxh := hI.out.h
        have e2 : IntKind.i64.wrap (x.h + 1) = x.h + 1 := IntWalk.i64_in _ (by omega)
        replace hIy := hide hIy
        replace hr := hide hr
        replace hd := hide hd
        replace f3 := hide (decide_eq_true f3)
        replace f4 := hide f4
        replace f5 := hide f5
        replace f6 := hide f6
        replace hR := hide hR
        clear hA hst hyc cx cK
        replace h3 := h4
        obtain ⟨B, hB⟩ : ∃ B, y.h = B := ⟨_, rfl⟩
        rw [hB] at hyh
        replace hyn := hide hyn
        replace hB := hide hB
        -- the three ways
        have hway : (hit = true ∧ out = false) ∨ (hit = false ∧ out = true ∧ R = m) ∨ (hit = false ∧ out = false ∧ R ≠ m) := by
          cases hit
          · right
            by_cases e : R = m
            · left; exact ⟨rfl, by rw [f2, decide_eq_true e]; rfl, e⟩
            · right; exact ⟨rfl, by rw [f2, decide_eq_false e]; rfl, e⟩
          · left; exact ⟨rfl, by rw [f2]; rfl⟩
        clear f2 hRm hmm hnl2 hxh
        have hv0 : Hide (out = false → v = ⟨#[]⟩) := ⟨f5.out⟩
        have hRM : out = true → R = m := fun e => by rcases hway with ⟨_, h⟩ | ⟨_, _, h⟩ | ⟨_, h, _⟩; · rw [e] at h; cases h
                                                     · exact h
                                                     · rw [e] at h; cases h
        have hxl := hide (show x.c.res.length ≤ 10000000 by rw [hR.out]; have := hRm2.out; have := hm.out; omega)
        rcases hway with ⟨rfl, rfl⟩ | ⟨rfl, rfl, hRe⟩ | ⟨rfl, rfl, hne⟩
        · obtain rfl := hv0.out rfl
          clear hRM
          rw [if_pos rfl] at hyh
          subst hyh
          go_upto_region 18 with (go_at_call 15; (with_reducible refine (In_Ask hI.out hi2.out hr.out (Holds.p2 (Holds.p2 h3.out))).mono ?_); rintro r w5 ⟨rfl, h5⟩)
          obtain ⟨rs, hrs⟩ : ∃ q, w5.heap.size = q := ⟨_, rfl⟩
          have h6 := h5.alloc (o := .cells #[.bool true, .string ⟨#[]⟩, .bool false] 34)
          rw [hrs] at h6
          simp only [hrs]
          generalize w5.alloc (.cells #[.bool true, .string ⟨#[]⟩, .bool false] 34) = W6 at h6 ⊢
          clear hrs h5 h3 h4 cx4
          have cx6 := h6.toKeep.cell cW.out
          obtain ⟨t0, t1, t2⟩ := cells3 h6
          replace h6 := hide h6
          have hxres := hide (show ∀ q, q ∈ x.c.keys → q ∈ x.c.res from fun q hq => ((Ca.keys_res x.c).1 q).1 hq)
          have hkl : Hide (x.c.keys.length = R) := ⟨by rw [(Ca.keys_res x.c).2, hR.out]⟩
          go_wp2_with (first
            | (go_at_call 16; (with_reducible refine (In_Count2 (Holds.p1 h6.out) _ _ hyn.out hB.out).mono ?_); rintro r w7 ⟨rfl, k7⟩; have h7 := hide (h6.out.keep k7); replace cx6 := k7.cell cx6; replace t0 := k7.cell t0; replace t1 := k7.cell t1; replace t2 := k7.cell t2; clear k7)
            | (go_at_call 17; (with_reducible refine (Ref_HasK (Holds.strsAt (Holds.p3 h7.out)) hxl.out key true hd.out).mono ?_); rintro r w8 ⟨rfl, rfl⟩)
            | (go_at_call 18; (with_reducible refine (In_HasR hIy.out.inv key true f3.out (Holds.p1 h7.out)).mono ?_); rintro r w9 ⟨rfl, k9⟩; have h9 := hide (h7.out.keep k9); replace cx6 := k9.cell cx6; replace t0 := k9.cell t0; replace t1 := k9.cell t1; replace t2 := k9.cell t2; clear k9)
            | (go_at_call 18; (with_reducible refine (In_HasR hIy.out.inv v false (decide_eq_false fv.out.2.1) (Holds.p1 h9.out)).mono ?_); rintro r w10 ⟨rfl, k10⟩; replace h9 := hide (h9.out.keep k10); replace cx6 := k10.cell cx6; replace t0 := k10.cell t0; replace t1 := k10.cell t1; replace t2 := k10.cell t2; clear k10)
            | (go_at_call 17; (with_reducible refine (Ref_HasK (Holds.strsAt (Holds.p3 h9.out)) hxl.out v true (decide_eq_true fv.out.1)).mono ?_); rintro r w11 ⟨rfl, rfl⟩))
          go_loopg [18] (R) (fun c z wr => ∃ j, Hide (R - j = c) ∧ j ≤ R ∧ z = .int .i64 (j : Nat) ∧ Holds W wr (pts rs (.cells #[.bool true, .string ⟨#[]⟩, .bool false] 34) :: IsIn b tb y :: IsTape tb u :: OwnStrs (.slice ao R cap) x.c.keys :: []))
          case atStart => exact ⟨0, ⟨rfl⟩, Nat.zero_le _, rfl, h9.out⟩
          case round =>
            clear h6 h7 h9 cx6 t0 t1 t2
            obtain ⟨j, hcj, hjR, rfl, hj⟩ := hrel
            by_cases hjl : j < R
            · have hjl' : (j : Int) < R := by omega
              have hRb2 := hRm2.out
              have hmb := hm.out
              have e3 : IntKind.i64.wrap ((j : Int) + 1) = ((j + 1 : Nat) : Int) := by rw [IntWalk.i64_in _ (by omega)]; omega
              obtain ⟨q, hq⟩ : ∃ x_1, x.c.keys[j]? = some x_1 := ⟨_, List.getElem?_eq_getElem (by rw [hkl.out]; exact hjl)⟩
              obtain ⟨bw, ow, hao, cq⟩ := RowAt.strCell (Holds.strsAt (Holds.p3 hj)) hq
              subst hao
              have hqx := hxres.out q (List.mem_of_getElem? hq)
              obtain ⟨_, t1, t2⟩ := cells3 hj
              replace cq : ∀ u : KeptOf wr, u.world.cell? ⟨bw, ow + j, none⟩ = some (.string q) := fun u => u.keep.cell cq
              replace t1 : ∀ u : KeptOf wr, u.world.cell? ⟨rs, 1, none⟩ = some (.string ⟨#[]⟩) := fun u => u.keep.cell t1
              replace t2 : ∀ u : KeptOf wr, u.world.cell? ⟨rs, 2, none⟩ = some (.bool false) := fun u => u.keep.cell t2
              replace hj := hide hj
              replace hq := hide hq
              clear hRb2 hmb
              by_cases hqy : q ∈ y.c.res
              · have cH := hide (fun (u : KeptOf wr) => KeptOf.calls (In_HasR hIy.out.inv q true (decide_eq_true hqy) (Holds.p1 (KeptOf.holds u hj.out))))
                clear hqx hqy
                go_wp2
                (refine wp_region_kept (by kernel_rfl) (by kernel_rfl) ?_; (repeat (go_big_quiet_step ((go_at_call 18; with_reducible exact cH.out _)))); refine wpQuiet_nil ?_; intro _ hw'; obtain ⟨uq, hw''⟩ := hw'; subst hw'')
                clear cq t1 t2
                go_wp2
                go_roundg (R - (j + 1))
                case measure => rw [← hcj.out]; omega
                case rel => exact ⟨j + 1, ⟨rfl⟩, by omega, rfl, uq.holds hj.out⟩
              · have hfull := f6.out q hqx hqy
                cases hfull.1
            · obtain rfl : j = R := by omega
              have hjl' : ¬ (j : Int) < j := by omega
              replace hj := hide hj
              go_wp2
              go_roundg (n - (i + 1))
              case measure => rw [← hci.out]; omega
              case rel => exact ⟨i + 1, y, u, ⟨rfl⟩, by omega, rfl, hIy, hyn, by rw [hB.out], hj.out.drop.p2.drop.p1.p1⟩
        · have hRb : ((R : Int) == (m : Int)) = true := by rw [beq_iff_eq]; omega
          have fv := hide (f4.out rfl)
          clear hRM hRe f4
          rw [if_neg (by decide)] at hyh
          subst hyh
          go_upto_region 18 with (go_at_call 15; (with_reducible refine (In_Ask hI.out hi2.out hr.out (Holds.p2 (Holds.p2 h3.out))).mono ?_); rintro r w5 ⟨rfl, h5⟩)
          obtain ⟨rs, hrs⟩ : ∃ q, w5.heap.size = q := ⟨_, rfl⟩
          have h6 := h5.alloc (o := .cells #[.bool false, .string v, .bool true] 34)
          rw [hrs] at h6
          simp only [hrs]
          generalize w5.alloc (.cells #[.bool false, .string v, .bool true] 34) = W6 at h6 ⊢
          clear hrs h5 h3 h4 cx4
          have cx6 := h6.toKeep.cell cW.out
          obtain ⟨t0, t1, t2⟩ := cells3 h6
          replace h6 := hide h6
          have hxres := hide (show ∀ q, q ∈ x.c.keys → q ∈ x.c.res from fun q hq => ((Ca.keys_res x.c).1 q).1 hq)
          have hkl : Hide (x.c.keys.length = R) := ⟨by rw [(Ca.keys_res x.c).2, hR.out]⟩
          go_wp2_with (first
            | (go_at_call 16; (with_reducible refine (In_Count2 (Holds.p1 h6.out) _ _ hyn.out hB.out).mono ?_); rintro r w7 ⟨rfl, k7⟩; have h7 := hide (h6.out.keep k7); replace cx6 := k7.cell cx6; replace t0 := k7.cell t0; replace t1 := k7.cell t1; replace t2 := k7.cell t2; clear k7)
            | (go_at_call 17; (with_reducible refine (Ref_HasK (Holds.strsAt (Holds.p3 h7.out)) hxl.out key false hd.out).mono ?_); rintro r w8 ⟨rfl, rfl⟩)
            | (go_at_call 18; (with_reducible refine (In_HasR hIy.out.inv key true f3.out (Holds.p1 h7.out)).mono ?_); rintro r w9 ⟨rfl, k9⟩; have h9 := hide (h7.out.keep k9); replace cx6 := k9.cell cx6; replace t0 := k9.cell t0; replace t1 := k9.cell t1; replace t2 := k9.cell t2; clear k9)
            | (go_at_call 18; (with_reducible refine (In_HasR hIy.out.inv v false (decide_eq_false fv.out.2.1) (Holds.p1 h9.out)).mono ?_); rintro r w10 ⟨rfl, k10⟩; replace h9 := hide (h9.out.keep k10); replace cx6 := k10.cell cx6; replace t0 := k10.cell t0; replace t1 := k10.cell t1; replace t2 := k10.cell t2; clear k10)
            | (go_at_call 17; (with_reducible refine (Ref_HasK (Holds.strsAt (Holds.p3 h9.out)) hxl.out v true (decide_eq_true fv.out.1)).mono ?_); rintro r w11 ⟨rfl, rfl⟩))
          go_loopg [18] (R) (fun c z wr => ∃ j, Hide (R - j = c) ∧ j ≤ R ∧ z = .int .i64 (j : Nat) ∧ Holds W wr (pts rs (.cells #[.bool false, .string v, .bool true] 34) :: IsIn b tb y :: IsTape tb u :: OwnStrs (.slice ao R cap) x.c.keys :: []))
          case atStart => exact ⟨0, ⟨rfl⟩, Nat.zero_le _, rfl, h9.out⟩
          case round =>
            clear h6 h7 h9 cx6 t0 t1 t2
            obtain ⟨j, hcj, hjR, rfl, hj⟩ := hrel
            by_cases hjl : j < R
            · have hjl' : (j : Int) < R := by omega
              have hRb2 := hRm2.out
              have hmb := hm.out
              have e3 : IntKind.i64.wrap ((j : Int) + 1) = ((j + 1 : Nat) : Int) := by rw [IntWalk.i64_in _ (by omega)]; omega
              obtain ⟨q, hq⟩ : ∃ x_1, x.c.keys[j]? = some x_1 := ⟨_, List.getElem?_eq_getElem (by rw [hkl.out]; exact hjl)⟩
              obtain ⟨bw, ow, hao, cq⟩ := RowAt.strCell (Holds.strsAt (Holds.p3 hj)) hq
              subst hao
              have hqx := hxres.out q (List.mem_of_getElem? hq)
              obtain ⟨_, t1, t2⟩ := cells3 hj
              replace cq : ∀ u : KeptOf wr, u.world.cell? ⟨bw, ow + j, none⟩ = some (.string q) := fun u => u.keep.cell cq
              replace t1 : ∀ u : KeptOf wr, u.world.cell? ⟨rs, 1, none⟩ = some (.string v) := fun u => u.keep.cell t1
              replace t2 : ∀ u : KeptOf wr, u.world.cell? ⟨rs, 2, none⟩ = some (.bool true) := fun u => u.keep.cell t2
              replace hj := hide hj
              replace hq := hide hq
              clear hRb2 hmb
              by_cases hqy : q ∈ y.c.res
              · have cH := hide (fun (u : KeptOf wr) => KeptOf.calls (In_HasR hIy.out.inv q true (decide_eq_true hqy) (Holds.p1 (KeptOf.holds u hj.out))))
                clear hqx hqy
                go_wp2
                (refine wp_region_kept (by kernel_rfl) (by kernel_rfl) ?_; (repeat (go_big_quiet_step ((go_at_call 18; with_reducible exact cH.out _)))); refine wpQuiet_nil ?_; intro _ hw'; obtain ⟨uq, hw''⟩ := hw'; subst hw'')
                clear cq t1 t2
                go_wp2
                go_roundg (R - (j + 1))
                case measure => rw [← hcj.out]; omega
                case rel => exact ⟨j + 1, ⟨rfl⟩, by omega, rfl, uq.holds hj.out⟩
              · have hfull := f6.out q hqx hqy
                obtain ⟨_, rfl⟩ := hfull
                have cH := hide (fun (u : KeptOf wr) => KeptOf.calls (In_HasR hIy.out.inv q false (decide_eq_false hqy) (Holds.p1 (KeptOf.holds u hj.out))))
                clear hqx hqy
                go_wp2
                (refine wp_region_kept (by kernel_rfl) (by kernel_rfl) ?_; (repeat (go_big_quiet_step ((go_at_call 18; with_reducible exact cH.out _)))); refine wpQuiet_nil ?_; intro _ hw'; obtain ⟨uq, hw''⟩ := hw'; subst hw'')
                clear cq t1 t2
                go_wp2
                go_roundg (R - (j + 1))
                case measure => rw [← hcj.out]; omega
                case rel => exact ⟨j + 1, ⟨rfl⟩, by omega, rfl, uq.holds hj.out⟩
            · obtain rfl : j = R := by omega
              have hjl' : ¬ (j : Int) < j := by omega
              replace hj := hide hj
              go_wp2
              go_roundg (n - (i + 1))
              case measure => rw [← hci.out]; omega
              case rel => exact ⟨i + 1, y, u, ⟨rfl⟩, by omega, rfl, hIy, hyn, by rw [hB.out], hj.out.drop.p2.drop.p1.p1⟩
        · obtain rfl := hv0.out rfl
          have hRb : ((R : Int) == (m : Int)) = false := by rw [beq_eq_false_iff_ne]; omega
          clear hRM hne
          rw [if_neg (by decide)] at hyh
          subst hyh
          go_upto_region 18 with (go_at_call 15; (with_reducible refine (In_Ask hI.out hi2.out hr.out (Holds.p2 (Holds.p2 h3.out))).mono ?_); rintro r w5 ⟨rfl, h5⟩)
          obtain ⟨rs, hrs⟩ : ∃ q, w5.heap.size = q := ⟨_, rfl⟩
          have h6 := h5.alloc (o := .cells #[.bool false, .string ⟨#[]⟩, .bool false] 34)
          rw [hrs] at h6
          simp only [hrs]
          generalize w5.alloc (.cells #[.bool false, .string ⟨#[]⟩, .bool false] 34) = W6 at h6 ⊢
          clear hrs h5 h3 h4 cx4
          have cx6 := h6.toKeep.cell cW.out
          obtain ⟨t0, t1, t2⟩ := cells3 h6
          replace h6 := hide h6
          have hxres := hide (show ∀ q, q ∈ x.c.keys → q ∈ x.c.res from fun q hq => ((Ca.keys_res x.c).1 q).1 hq)
          have hkl : Hide (x.c.keys.length = R) := ⟨by rw [(Ca.keys_res x.c).2, hR.out]⟩
          go_wp2_with (first
            | (go_at_call 16; (with_reducible refine (In_Count2 (Holds.p1 h6.out) _ _ hyn.out hB.out).mono ?_); rintro r w7 ⟨rfl, k7⟩; have h7 := hide (h6.out.keep k7); replace cx6 := k7.cell cx6; replace t0 := k7.cell t0; replace t1 := k7.cell t1; replace t2 := k7.cell t2; clear k7)
            | (go_at_call 17; (with_reducible refine (Ref_HasK (Holds.strsAt (Holds.p3 h7.out)) hxl.out key false hd.out).mono ?_); rintro r w8 ⟨rfl, rfl⟩)
            | (go_at_call 18; (with_reducible refine (In_HasR hIy.out.inv key true f3.out (Holds.p1 h7.out)).mono ?_); rintro r w9 ⟨rfl, k9⟩; have h9 := hide (h7.out.keep k9); replace cx6 := k9.cell cx6; replace t0 := k9.cell t0; replace t1 := k9.cell t1; replace t2 := k9.cell t2; clear k9)
            | (go_at_call 18; (with_reducible refine (In_HasR hIy.out.inv v false (decide_eq_false fv.out.2.1) (Holds.p1 h9.out)).mono ?_); rintro r w10 ⟨rfl, k10⟩; replace h9 := hide (h9.out.keep k10); replace cx6 := k10.cell cx6; replace t0 := k10.cell t0; replace t1 := k10.cell t1; replace t2 := k10.cell t2; clear k10)
            | (go_at_call 17; (with_reducible refine (Ref_HasK (Holds.strsAt (Holds.p3 h9.out)) hxl.out v true (decide_eq_true fv.out.1)).mono ?_); rintro r w11 ⟨rfl, rfl⟩))
          go_loopg [18] (R) (fun c z wr => ∃ j, Hide (R - j = c) ∧ j ≤ R ∧ z = .int .i64 (j : Nat) ∧ Holds W wr (pts rs (.cells #[.bool false, .string ⟨#[]⟩, .bool false] 34) :: IsIn b tb y :: IsTape tb u :: OwnStrs (.slice ao R cap) x.c.keys :: []))
          case atStart => exact ⟨0, ⟨rfl⟩, Nat.zero_le _, rfl, h9.out⟩
          case round =>
            clear h6 h7 h9 cx6 t0 t1 t2
            obtain ⟨j, hcj, hjR, rfl, hj⟩ := hrel
            by_cases hjl : j < R
            · have hjl' : (j : Int) < R := by omega
              have hRb2 := hRm2.out
              have hmb := hm.out
              have e3 : IntKind.i64.wrap ((j : Int) + 1) = ((j + 1 : Nat) : Int) := by rw [IntWalk.i64_in _ (by omega)]; omega
              obtain ⟨q, hq⟩ : ∃ x_1, x.c.keys[j]? = some x_1 := ⟨_, List.getElem?_eq_getElem (by rw [hkl.out]; exact hjl)⟩
              obtain ⟨bw, ow, hao, cq⟩ := RowAt.strCell (Holds.strsAt (Holds.p3 hj)) hq
              subst hao
              have hqx := hxres.out q (List.mem_of_getElem? hq)
              obtain ⟨_, t1, t2⟩ := cells3 hj
              replace cq : ∀ u : KeptOf wr, u.world.cell? ⟨bw, ow + j, none⟩ = some (.string q) := fun u => u.keep.cell cq
              replace t1 : ∀ u : KeptOf wr, u.world.cell? ⟨rs, 1, none⟩ = some (.string ⟨#[]⟩) := fun u => u.keep.cell t1
              replace t2 : ∀ u : KeptOf wr, u.world.cell? ⟨rs, 2, none⟩ = some (.bool false) := fun u => u.keep.cell t2
              replace hj := hide hj
              replace hq := hide hq
              clear hRb2 hmb
              by_cases hqy : q ∈ y.c.res
              · have cH := hide (fun (u : KeptOf wr) => KeptOf.calls (In_HasR hIy.out.inv q true (decide_eq_true hqy) (Holds.p1 (KeptOf.holds u hj.out))))
                clear hqx hqy
                go_wp2
                (refine wp_region_kept (by kernel_rfl) (by kernel_rfl) ?_; (repeat (go_big_quiet_step ((go_at_call 18; with_reducible exact cH.out _)))); refine wpQuiet_nil ?_; intro _ hw'; obtain ⟨uq, hw''⟩ := hw'; subst hw'')
                clear cq t1 t2
                go_wp2
                go_roundg (R - (j + 1))
                case measure => rw [← hcj.out]; omega
                case rel => exact ⟨j + 1, ⟨rfl⟩, by omega, rfl, uq.holds hj.out⟩
              · have hfull := f6.out q hqx hqy
                cases hfull.1
            · obtain rfl : j = R := by omega
              have hjl' : ¬ (j : Int) < j := by omega
              replace hj := hide hj
              go_wp2
              go_roundg (n - (i + 1))
              case measure => rw [← hci.out]; omega
              case rel => exact ⟨i + 1, y, u, ⟨rfl⟩, by omega, rfl, hIy, hyn, by rw [hB.out], hj.out.drop.p2.drop.p1.p1⟩
    · obtain rfl : i = n := by omega
      have hlt' : ¬ (i : Int) < i := by omega
      obtain ⟨R, hR⟩ : ∃ R, x.c.res.length = R := ⟨_, rfl⟩
      have hRm : R ≤ m := by rw [← hR, ← hI.out.most]; exact hI.out.inv.le
      have hRm' : (R : Int) ≤ m := by omega
      have hmm := hm.out
      have cL := hide (fun (w : World) (L : List SProp) (h : Holds W w (IsIn b tb x :: L)) => In_LenR R hR (by omega) h)
      clear hmm hR
      go_wp2_with (go_at_call 19; (with_reducible refine (cL.out _ _ h3.out).mono ?_); rintro q3 w22 ⟨rfl, k22⟩; have k22 := hide k22)
      go_ret
      exact ⟨rfl, (h3.out.keep k22.out).nil⟩
end Go.Proofs.YtbbdimlpofjlfaaGreatDoor
