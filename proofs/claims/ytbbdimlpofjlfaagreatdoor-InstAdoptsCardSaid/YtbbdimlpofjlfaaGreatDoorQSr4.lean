/- srlru: Request of a resident. -/
import Derived.Test.YtbbdimlpofjlfaaGreatDoorQSr1
import Derived.Deep.DeepCutAuto
import Derived.Test.YtbbdimlpofjlfaaGreatDoorQApp
namespace Go.Proofs.YtbbdimlpofjlfaaGreatDoor
open Go Go.RowKit

theorem zeroMark (w : World) : (zeroValue 258).run Tryz.prog w = .ok (.agg #[.bool false, .bool false]) w := by kernel_rfl
theorem Sr.evict_len (s : Sr) : s.evict.n.length + s.evict.a.length ≤ s.n.length + s.a.length := by
  unfold Sr.evict
  split
  · exact Nat.le_refl _
  · show s.popRow.n.length + s.popRow.a.length ≤ _
    unfold Sr.popRow
    split
    · dsimp only; rw [List.length_dropLast]; omega
    · dsimp only; rw [List.length_dropLast]; omega
theorem cells2 {g w : World} {b : Nat} {t : TypeId} {F : List SProp} {v0 v1 : Value} (h : Holds g w (pts b (.cells #[v0, v1] t) :: F)) :
    w.cell? ⟨b, 0, none⟩ = some v0 ∧ w.cell? ⟨b, 1, none⟩ = some v1 := ⟨h.cell rfl, h.cell rfl⟩
/-- The boxes of a request. -/
def SrBox (r4 r5 r6 : Nat) (hit : Bool) (x : ByteArray) (out : Bool) (mk : Bool × Bool) (F : List SProp) : List SProp :=
  pts r6 (.cells #[.bool mk.1, .bool mk.2] 258) :: pts r5 (.cells #[.bool hit, .string x, .bool out] 34) :: pts r4 (.cells #[.bool false, .string ⟨#[]⟩, .bool false] 34) :: F
theorem srBox {g w : World} {P : SProp} {r4 r5 r6 : Nat} {hit : Bool} {x : ByteArray} {out : Bool} {mk : Bool × Bool} {F : List SProp} (h : Holds g w (P :: SrBox r4 r5 r6 hit x out mk F)) :
    (w.cell? ⟨r5, 0, none⟩ = some (.bool hit) ∧ w.cell? ⟨r5, 1, none⟩ = some (.string x) ∧ w.cell? ⟨r5, 2, none⟩ = some (.bool out)) ∧
    (w.cell? ⟨r4, 0, none⟩ = some (.bool false) ∧ w.cell? ⟨r4, 1, none⟩ = some (.string ⟨#[]⟩) ∧ w.cell? ⟨r4, 2, none⟩ = some (.bool false)) ∧
    (w.frozen? ⟨r4, 0, none⟩ = false ∧ w.frozen? ⟨r4, 1, none⟩ = false ∧ w.frozen? ⟨r4, 2, none⟩ = false) ∧
    (w.frozen? ⟨r5, 1, none⟩ = false ∧ w.frozen? ⟨r5, 2, none⟩ = false) := by
  unfold SrBox at h
  exact ⟨cells3 h.p2, cells3 h.p3, free3 h.p3, ⟨h.p2.free, h.p2.free⟩⟩
/-- The end: the step is told. -/
theorem srRet {g w : World} {P : SProp} {r4 r5 r6 : Nat} {hit : Bool} {x : ByteArray} {out : Bool} {mk : Bool × Bool} {F : List SProp} (h : Holds g w (P :: SrBox r4 r5 r6 hit x out mk F)) :
    Holds g (((w.setCell ⟨r4, 0, none⟩ (.bool hit)).setCell ⟨r4, 1, none⟩ (.string x)).setCell ⟨r4, 2, none⟩ (.bool out)) (pts r4 (.cells #[.bool hit, .string x, .bool out] 34) :: P :: F) := by
  unfold SrBox at h
  have H := put3 h.p3 (.bool hit) (.string x) (.bool out)
  exact H.p2.drop.p2.drop
set_option maxRecDepth 100000 in
set_option maxHeartbeats 4000000 in
theorem Sr_RequestHit {g w : World} {b : Nat} {s : Sr} {F : List SProp} (h : Holds g w (IsSr b s :: F)) (k : ByteArray) (hl : s.n.length + s.a.length + s.g.length < 700000) (hmt : s.most ≤ 1000000000 ∧ s.target ≤ s.most) (hhas : s.has k = true) :
    Calls Tryz.prog 94 #[.pointer (some ⟨b, 0, none⟩), .string k] w fun r w' => r = .returned (stepV (s.req k).2) ∧ Holds g w' (IsSr b (s.req k).1 :: F) := by
  obtain ⟨d, hd⟩ : ∃ d, s.has k = d := ⟨_, rfl⟩
  obtain ⟨da, hda⟩ : ∃ d, decide (k ∈ s.a) = d := ⟨_, rfl⟩
  obtain ⟨dn, hdn⟩ : ∃ d, decide (k ∈ s.n) = d := ⟨_, rfl⟩
  obtain ⟨known, hkn⟩ : ∃ d, s.marks.has k = d := ⟨_, rfl⟩
  obtain ⟨⟨mo, md⟩, hmk⟩ : ∃ d, (s.marks.get k).getD (false, false) = d := ⟨_, rfl⟩
  have HK := h.alloc (o := .cells #[.bool false, .string ⟨#[]⟩, .bool false] 34)
  have cH := hide (Sr_Has HK.p1 k d hd)
  have HA := HK.alloc (o := .cells #[.bool d, .string ⟨#[]⟩, .bool false] 34)
  obtain ⟨nb, ab, gb, mb, HA⟩ := HA.p2.isSr
  unfold SrRaw at HA
  have lk := (HA.p4).lookupOk (t := 254) Tryz.underlying254 Tryz.underlying9 zeroMark k
  rw [TMap.enc_has, TMap.enc_get, hkn] at lk
  have hmv : (Option.map encM (s.marks.get k)).getD (.agg #[.bool false, .bool false]) = .agg #[.bool mo, .bool md] := by
    have e : ∀ o : Option (Bool × Bool), o.getD (false, false) = (mo, md) → (Option.map encM o).getD (.agg #[.bool false, .bool false]) = .agg #[.bool mo, .bool md] := fun o ho => by
      cases o with
      | none => obtain ⟨rfl, rfl⟩ : false = mo ∧ false = md := Prod.mk.injEq .. ▸ ho; rfl
      | some p => obtain rfl : p = (mo, md) := ho; rfl
    exact e _ hmk
  rw [hmv] at lk
  have HB := HA.alloc (o := .cells #[.bool mo, .bool md] 258)
  have d5 := Holds.cell (off := 5) HA rfl
  simp only [World.size_alloc] at HB
  obtain ⟨r4, hr4⟩ : ∃ r4, w.heap.size = r4 := ⟨_, rfl⟩
  obtain ⟨r5, hr5⟩ : ∃ r5, r4 + 1 = r5 := ⟨_, rfl⟩
  obtain ⟨r6, hr6⟩ : ∃ r6, r5 + 1 = r6 := ⟨_, rfl⟩
  rw [hr4, hr5, hr6] at HB
  have HB := hide HB.p5.p5.p5.p5.p5
  obtain ⟨res, hres⟩ : ∃ res, Sr.req s k = res := ⟨_, rfl⟩
  rw [hres]
  have hres := hide hres
  have hda := hide hda
  have hdn := hide hdn
  have hkn := hide hkn
  have hmk := hide hmk
  have hhas := hide hhas
  have hd := hide hd
  have hl := hide hl
  have hmt := hide hmt
  clear h HA HK hmv
  go_enter Tryz.func94, Tryz.ntmps94
  go_upto_region 3 with (go_at_call 92; (with_reducible refine cH.out.mono ?_); rintro r w1 ⟨rfl, rfl⟩)
  try simp only [hr4, hr5, hr6]
  generalize ((w.alloc (.cells #[.bool false, .string ⟨#[]⟩, .bool false] 34)).alloc (.cells #[.bool d, .string ⟨#[]⟩, .bool false] 34)).alloc (.cells #[.bool mo, .bool md] 258) = W2 at HB ⊢
  clear hr4 hr5 hr6 lk d5 cH
  have HB : Hide (Holds g W2 (SrRaw b nb ab gb mb s (SrBox r4 r5 r6 d ⟨#[]⟩ false (mo, md) F))) := ⟨HB.out⟩
  obtain ⟨c0, c1, c2, c3, c4, c5⟩ := srCells HB.out
  have HS := hide (Holds.toSr HB.out)
  obtain ⟨⟨t0, t1, t2⟩, ⟨z0, z1, z2⟩, ⟨f0, f1, f2⟩, _⟩ := srBox HS.out
  obtain ⟨most, hmo⟩ : ∃ m, s.most = m := ⟨_, rfl⟩
  obtain ⟨tg, htg⟩ : ∃ m, s.target = m := ⟨_, rfl⟩
  rw [hmo] at c0
  rw [htg] at c1
  have hmo := hide hmo
  have htg := hide htg
  have hbd : Hide (most ≤ 1000000000 ∧ tg ≤ most) := ⟨by rw [← hmo.out, ← htg.out]; exact hmt.out⟩
  by_cases h0 : most = 0
  · subst h0
    go_wp2
    refine bodyPost_ret (ret_step rfl (srRet HS.out) rfl) rfl ?_
    rw [show res = (s, ⟨d, bNil, false⟩) by rw [← hres.out]; unfold Sr.req; rw [if_pos hmo.out, hd.out]]
    exact ⟨rfl, (srRet HS.out).drop⟩
  · have g0 : ((most : Int) == 0) = false := by rw [beq_eq_false_iff_ne]; omega
    have h0 := hide (show ¬ s.most = 0 by rw [hmo.out]; exact h0)
    have cA := hide (List_Has (Holds.p2 HB.out) k da hda.out)
    cases da with
    | true =>
      have hk := hide (of_decide_eq_true hda.out)
      have hla : Hide (s.a.length < 900000) := ⟨by have := hl.out; omega⟩
      obtain rfl : true = d := by rw [← hd.out]; unfold Sr.has; rw [hda.out, Bool.or_true]
      have hr : Hide (res = ({ s with a := kFront s.a k }, ⟨true, bNil, false⟩)) := ⟨by rw [← hres.out]; unfold Sr.req; rw [if_neg h0.out, if_pos hk.out]⟩
      clear t0 t1 t2 z0 z1 z2 f0 f1 f2 c1 c2 c4 c5
      go_wp2_with (first
        | (go_at_call 160; (with_reducible refine cA.out.mono ?_); rintro r w1 ⟨rfl, rfl⟩)
        | (go_at_call 163; (with_reducible refine (List_Front (Holds.p2 HB.out) k hla.out).mono ?_); rintro r w3 ⟨rfl, h3⟩; have h3 : Hide (Holds g w3 (IsSr b { s with a := kFront s.a k } :: SrBox r4 r5 r6 true ⟨#[]⟩ false (mo, md) F)) := ⟨Holds.toSr (nb := nb) (ab := ab) (gb := gb) (mb := mb) (Holds.p2 (Holds.p2 h3))⟩; obtain ⟨⟨t0, t1, t2⟩, ⟨z0, z1, z2⟩, ⟨f0, f1, f2⟩, _⟩ := srBox h3.out))
      refine bodyPost_ret (ret_step rfl (srRet h3.out) rfl) rfl ?_
      rw [hr.out]
      exact ⟨rfl, (srRet h3.out).drop⟩
    | false =>
      have hk := hide (of_decide_eq_false hda.out)
      cases dn with
      | true =>
        obtain rfl : true = d := by rw [← hd.out]; unfold Sr.has; rw [hdn.out, Bool.true_or]
        have hkn2 := hide (of_decide_eq_true hdn.out)
        have hra : ∀ s1 : Sr, ({ s with target := if md = true then min (tg + 1) most else tg, n := kDel s.n k } : Sr) = s1 → res = (s1.again k, ⟨true, bNil, false⟩) := fun s1 e => by
          rw [← hres.out, ← e]
          unfold Sr.req
          rw [if_neg h0.out, if_neg hk.out, if_pos hkn2.out, hmk.out, hmo.out, htg.out]
        have hra := hide hra
        have hlk : Hide ((kDel s.n k).length + s.a.length < 800000) := ⟨by have := hl.out; have : (kDel s.n k).length ≤ s.n.length := List.length_filter_le _ _; omega⟩
        have y0 : W2.cell? ⟨r6, 0, none⟩ = some (.bool mo) := by have := HS.out; unfold SrBox at this; exact (cells2 this.p1).1
        have y1 : W2.cell? ⟨r6, 1, none⟩ = some (.bool md) := by have := HS.out; unfold SrBox at this; exact (cells2 this.p1).2
        cases md with
        | true =>
          obtain ⟨T, hT⟩ : ∃ T, min (tg + 1) most = T := ⟨_, rfl⟩
          have g1 : IntKind.i64.wrap ((tg : Int) + 1) = (tg : Int) + 1 := IntWalk.i64_in _ (by have := hbd.out; omega)
          have g2 : (if (most : Int) < (tg : Int) + 1 then (most : Int) else (tg : Int) + 1) = (T : Int) := by split <;> omega
          have c1f : W2.frozen? ⟨b, 1, none⟩ = false := Holds.free HB.out
          have HT : Hide (Holds g (W2.setCell ⟨b, 1, none⟩ (.int .i64 (T : Nat))) (SrRaw b nb ab gb mb { s with target := T } (SrBox r4 r5 r6 true ⟨#[]⟩ false (mo, true) F))) := ⟨by
            have := HB.out
            unfold SrRaw at this
            exact this.setCell (off := 1) (v := .int .i64 (T : Nat))⟩
          go_upto_region 10 with (go_at_call 160; (with_reducible refine cA.out.mono ?_); rintro r w1 ⟨rfl, rfl⟩)
          go_cut [47] (fun v wx => v = .pointer (some ⟨b, 0, none⟩) ∧ Holds g wx (SrRaw b nb ab gb mb { s with target := T } (SrBox r4 r5 r6 true ⟨#[]⟩ false (mo, true) F)))
          case first =>
            go_region_law (fail)
            all_goals
              go_wp2
              go_meet
              case rel => exact ⟨rfl, HT.out.drew⟩
          case rest =>
            obtain ⟨rfl, hc⟩ := hcut
            have HC := hide hc
            have hra := hide (hra.out { s with target := T, n := kDel s.n k } (by first | rw [if_pos rfl, hT] | rw [if_pos trivial, hT]))
            clear hc HT c0 c1 c2 c3 c4 c5 t0 t1 t2 z0 z1 z2 f0 f1 f2 y0 y1 c1f cA HS HB
            obtain ⟨c0, c1, c2, c3, c4, c5⟩ := srCells HC.out
            clear c0 c1 c3 c4 c5
            go_wp2_with (first
              | (go_at_call 164; (with_reducible refine (List_Remove (Holds.p1 HC.out) k true hdn.out).mono ?_); rintro r w3 ⟨rfl, h3⟩; have h3 : Hide (Holds g w3 (IsSr b { s with target := T, n := kDel s.n k } :: _)) := ⟨Holds.toSr (nb := nb) (ab := ab) (gb := gb) (mb := mb) (Holds.p1 h3)⟩)
              | (go_at_call 178; (with_reducible refine (Sr_again h3.out k hlk.out).mono ?_); rintro r w4 ⟨rfl, h4⟩; have h4 := hide h4; obtain ⟨⟨t0, t1, t2⟩, ⟨z0, z1, z2⟩, ⟨f0, f1, f2⟩, _⟩ := srBox h4.out))
            refine bodyPost_ret (ret_step rfl (srRet h4.out) rfl) rfl ?_
            rw [hra.out]
            exact ⟨rfl, (srRet h4.out).drop⟩
        | false =>
          have HC := HB
          have hra := hide (hra.out { s with target := tg, n := kDel s.n k } (by rw [if_neg (by decide)]))
          have hT := htg
          go_upto_region 11 with (go_at_call 160; (with_reducible refine cA.out.mono ?_); rintro r w1 ⟨rfl, rfl⟩)
          clear c0 c1 c2 c3 c4 c5 t0 t1 t2 z0 z1 z2 f0 f1 f2 y0 y1 cA HS
          have HC : Hide (Holds g W2 (SrRaw b nb ab gb mb { s with target := tg } (SrBox r4 r5 r6 true ⟨#[]⟩ false (mo, false) F))) := ⟨by rw [← htg.out]; exact HB.out⟩
          all_goals
            obtain ⟨c0, c1, c2, c3, c4, c5⟩ := srCells HC.out
            clear c0 c1 c3 c4 c5
            go_wp2_with (first
              | (go_at_call 164; (with_reducible refine (List_Remove (Holds.p1 HC.out) k true hdn.out).mono ?_); rintro r w3 ⟨rfl, h3⟩; have h3 : Hide (Holds g w3 (IsSr b { s with target := tg, n := kDel s.n k } :: _)) := ⟨Holds.toSr (nb := nb) (ab := ab) (gb := gb) (mb := mb) (Holds.p1 h3)⟩)
              | (go_at_call 178; (with_reducible refine (Sr_again h3.out k hlk.out).mono ?_); rintro r w4 ⟨rfl, h4⟩; have h4 := hide h4; obtain ⟨⟨t0, t1, t2⟩, ⟨z0, z1, z2⟩, ⟨f0, f1, f2⟩, _⟩ := srBox h4.out))
            refine bodyPost_ret (ret_step rfl (srRet h4.out) rfl) rfl ?_
            rw [hra.out]
            exact ⟨rfl, (srRet h4.out).drop⟩
      | false =>
        exfalso
        have := hhas.out
        unfold Sr.has at this
        rw [hdn.out, hda.out] at this
        cases this
end Go.Proofs.YtbbdimlpofjlfaaGreatDoor
/- srlru: Adopt, Keys, Resize. -/
namespace Go.Proofs.YtbbdimlpofjlfaaGreatDoor
open Go Go.RowKit

set_option maxRecDepth 100000 in
set_option maxHeartbeats 2000000 in
theorem Sr_Adopt {g w : World} {b : Nat} {s : Sr} {F : List SProp} (h : Holds g w (IsSr b s :: F)) (k : ByteArray) (hl : s.n.length + s.a.length < 800000) :
    Calls Tryz.prog 96 #[.pointer (some ⟨b, 0, none⟩), .string k] w fun r w' => r = .returned (.bool (s.adopt k).2) ∧ Holds g w' (IsSr b (s.adopt k).1 :: F) := by
  obtain ⟨d, hd⟩ : ∃ d, s.has k = d := ⟨_, rfl⟩
  obtain ⟨n, hn⟩ : ∃ n, s.len = n := ⟨_, rfl⟩
  obtain ⟨most, hmo⟩ : ∃ n, s.most = n := ⟨_, rfl⟩
  have cH := hide (fun m => Sr_Has (h.drewN (n := m)) k d hd)
  have cL := hide (fun m => Sr_Len (h.drewN (n := m)) n hn (by unfold Sr.len; omega))
  obtain ⟨nb, ab, gb, mb, h⟩ := h.isSr
  obtain ⟨c0, _, c2, _, c4, c5⟩ := srCells h
  rw [hmo] at c0
  obtain ⟨res, hres⟩ : ∃ res, Sr.adopt s k = res := ⟨_, rfl⟩
  rw [hres]
  have hres := hide hres
  have h := hide h
  have hd := hide hd
  have hn := hide hn
  have hmo := hide hmo
  have hln := hide (show s.n.length < 900000 by omega)
  clear hl
  cases d with
  | true =>
    have hr : Hide (res = (s, false)) := ⟨by rw [← hres.out]; unfold Sr.adopt; rw [if_pos (.inl hd.out)]⟩
    clear c2 c4 c5
    go_enter Tryz.func96, Tryz.ntmps96
    go_wp2
    go_quiet ((go_at_call 92; exact Calls.quiet_eq (cH.out _)))
    go_wp2
    go_ret
    rw [hr.out]
    exact ⟨rfl, Holds.toSr h.out.drewN⟩
  | false =>
    by_cases hf : most ≤ n
    · have hf1 : decide ((most : Int) ≤ n) = true := decide_eq_true (by omega)
      have hf2 : decide (most ≤ n) = true := decide_eq_true hf
      have hf3 : most ≤ n := hf
      have hr : Hide (res = (s, false)) := ⟨by rw [← hres.out]; unfold Sr.adopt; rw [if_pos (.inr (by rw [hn.out, hmo.out]; exact hf))]⟩
      clear hf c2 c4 c5
      go_enter Tryz.func96, Tryz.ntmps96
      go_wp2
      go_quiet ((first | (go_at_call 92; exact Calls.quiet_eq (cH.out _)) | (go_at_call 93; exact Calls.quiet_of (cL.out _))))
      go_wp2
      go_ret
      rw [hr.out]
      exact ⟨rfl, Holds.toSr h.out.drewN⟩
    · have hf1 : decide ((most : Int) ≤ n) = false := decide_eq_false (by omega)
      have hf2 : decide (most ≤ n) = false := decide_eq_false hf
      have hf3 : n < most := by omega
      have hr : Hide (res = ({ s with g := kDel s.g k, n := kFront s.n k, marks := s.marks.put k (false, false) }, true)) := ⟨by rw [← hres.out]; unfold Sr.adopt; rw [if_neg (by rw [hn.out, hmo.out, hd.out]; exact fun hh => hh.elim (by decide) hf)]⟩
      obtain ⟨dg, hdg⟩ : ∃ d, decide (k ∈ s.g) = d := ⟨_, rfl⟩
      have hdg := hide hdg
      clear hf
      go_enter Tryz.func96, Tryz.ntmps96
      go_wp2
      go_quiet ((first | (go_at_call 92; exact Calls.quiet_eq (cH.out _)) | (go_at_call 93; exact Calls.quiet_of (cL.out _))))
      have HD := hide (h.out.drewN (n := nq))
      unfold SrRaw at HD
      go_upto_region 5 with (first
        | (go_at_call 164; (with_reducible refine (List_Remove (Holds.p3 HD.out) k dg hdg.out).mono ?_); rintro r w1 ⟨rfl, h1⟩; have h1 := hide h1; have c2 := Holds.cell (off := 2) h1.out.p1 rfl; have c5 := Holds.cell (off := 5) h1.out.p1 rfl)
        | (go_at_call 163; (with_reducible refine (List_Front (Holds.p2 h1.out) k hln.out).mono ?_); rintro r w2 ⟨rfl, h2⟩; have h2 := hide h2; have c5 := Holds.cell (off := 5) h2.out.p2 rfl))
      obtain ⟨w5, hup, H5⟩ := (Holds.p4 h2.out).updateMap (P := Tryz.prog) (t := 254) Tryz.underlying254 Tryz.underlying9 k (encM (false, false))
      rw [TMap.enc_put] at H5
      unfold encM at hup
      have H5 := hide H5
      go_wp2
      go_ret
      rw [hr.out]
      refine ⟨rfl, Holds.toSr (nb := nb) (ab := ab) (gb := gb) (mb := mb) ?_⟩
      unfold SrRaw
      exact H5.out.p2.p4.p3.p4
set_option maxRecDepth 100000 in
set_option maxHeartbeats 1000000 in
theorem Sr_Keys {g w : World} {b : Nat} {s : Sr} {F : List SProp} (h : Holds g w (IsSr b s :: F)) (hl : s.n.length + s.a.length ≤ 1000000) :
    Calls Tryz.prog 100 #[.pointer (some ⟨b, 0, none⟩)] w fun r w' => ∃ v, r = .returned v ∧ Holds g w' (OwnStrs v s.keys :: IsSr b s :: F) := by
  obtain ⟨nb, ab, gb, mb, h⟩ := h.isSr
  obtain ⟨_, _, c2, c3, _, _⟩ := srCells h
  unfold SrRaw at h
  have h := hide h
  have hln := hide (show s.n.length ≤ 1000000 by omega)
  have hla := hide (show s.a.length ≤ 1000000 by omega)
  have hl := hide (show s.n.reverse.length + s.a.reverse.length ≤ 2000000 by rw [List.length_reverse, List.length_reverse]; omega)
  have st := hide (fun w' (k : Keep w w') => And.intro (k.cell c2) (k.cell c3))
  have kq := hide (Keep.refl w).drew
  clear c2 c3
  go_enter Tryz.func100, Tryz.ntmps100
  go_wp2
  go_region_held3 (fun w' => w'.cell? ⟨b, 2, none⟩ = some (.pointer (some ⟨nb, 0, none⟩)) ∧ w'.cell? ⟨b, 3, none⟩ = some (.pointer (some ⟨ab, 0, none⟩))) (first | exact st.out _ kq.out | exact S3.out | exact S2.out)
    ((first
      | (go_at_call 167; (with_reducible refine (List_Keys (Holds.p1 (Holds.drew h.out))).mono ?_); rintro r w1 ⟨v1, rfl, h1⟩; have h1 := hide h1; have S2 := hide (And.intro (Holds.cell (off := 2) (Holds.p2 h1.out) rfl) (Holds.cell (off := 3) (Holds.p2 h1.out) rfl)))
      | (go_at_call 167; (with_reducible refine (List_Keys (Holds.p3 h1.out)).mono ?_); rintro r w2 ⟨v2, rfl, h2⟩; have h2 := hide (Holds.p2 h2); have S3 := hide (And.intro (Holds.cell (off := 2) (Holds.p4 h2.out) rfl) (Holds.cell (off := 3) (Holds.p4 h2.out) rfl)))))
  all_goals
   go_wp2_with (first
    | (go_at_call 168; (with_reducible refine (Rev_strs h2.out hln.out).mono ?_); rintro r w3 ⟨rfl, h3⟩; have h3 := hide (Holds.p1 h3))
    | (go_at_call 168; (with_reducible refine (Rev_strs h3.out hla.out).mono ?_); rintro r w4 ⟨rfl, h4⟩; have h4 := hide (Holds.p1 h4))
    | (at_builtin; refine wpList_append_strs rfl _ _ rfl h4.out hl.out rfl rfl ?_; intro v5 w5 h5; have h5 := hide h5))
   go_ret
   refine ⟨_, rfl, ?_⟩
   have H : Holds g w5 (SrRaw b nb ab gb mb s (OwnStrs v5 s.keys :: F)) := by
     unfold SrRaw
     exact h5.out.p5.p5.p3.p4.p5
   exact (Holds.toSr H).p1
end Go.Proofs.YtbbdimlpofjlfaaGreatDoor
/- srlru: Resize. -/
namespace Go.Proofs.YtbbdimlpofjlfaaGreatDoor
open Go Go.RowKit

theorem Sr.evictN_snoc : ∀ (i : Nat) (s : Sr), Sr.evictN (i + 1) s = ((Sr.evictN i s).1.evict, (Sr.evictN i s).2 ++ [kLast (Sr.evictN i s).1.row])
  | 0, _ => rfl
  | i + 1, s => by
    show ((Sr.evictN (i + 1) s.evict).1, kLast s.row :: (Sr.evictN (i + 1) s.evict).2) = _
    rw [Sr.evictN_snoc i s.evict]
    rfl
theorem Sr.evict_len1 (s : Sr) (h : 0 < s.len) : s.row ≠ [] ∧ s.evict.len + 1 = s.len ∧ s.evict.g.length ≤ s.g.length + 1 ∧ s.evict.most = s.most := by
  have hr : s.row ≠ [] := by
    unfold Sr.row Sr.len at *
    split
    · exact List.length_pos_iff.1 (by omega)
    · exact List.length_pos_iff.1 (by omega)
  refine ⟨hr, ?_⟩
  unfold Sr.evict
  rw [if_neg hr]
  have hg := kFront_len s.g (kLast s.row)
  have hg2 : ((kFront s.g (kLast s.row)).take s.popRow.most).length ≤ s.g.length + 1 := by rw [List.length_take]; omega
  refine ⟨?_, hg2, ?_⟩
  · show s.popRow.n.length + s.popRow.a.length + 1 = s.len
    unfold Sr.popRow Sr.len at *
    split
    · dsimp only; rw [List.length_dropLast]; omega
    · dsimp only; rw [List.length_dropLast]; omega
  · exact popRow_most s
theorem Sr.evictN_len : ∀ (i : Nat) (s : Sr), i ≤ s.len → (Sr.evictN i s).1.len + i = s.len ∧ (Sr.evictN i s).1.g.length ≤ s.g.length + i ∧ (Sr.evictN i s).1.most = s.most ∧ (Sr.evictN i s).2.length = i
  | 0, _, _ => ⟨rfl, Nat.le_refl _, rfl, rfl⟩
  | i + 1, s, h => by
    obtain ⟨_, h1, h2, h3⟩ := s.evict_len1 (by omega)
    obtain ⟨h4, h5, h6, h7⟩ := Sr.evictN_len i s.evict (by omega)
    refine ⟨?_, ?_, h6.trans h3, ?_⟩
    · show (Sr.evictN i s.evict).1.len + (i + 1) = s.len
      omega
    · show (Sr.evictN i s.evict).1.g.length ≤ _
      omega
    · show (kLast s.row :: (Sr.evictN i s.evict).2).length = i + 1
      rw [List.length_cons, h7]
set_option maxRecDepth 100000 in
set_option maxHeartbeats 1000000 in
theorem Sr_Resize {g w : World} {b : Nat} {s : Sr} {F : List SProp} (h : Holds g w (IsSr b s :: F)) (most : Nat) (hm : most ≤ 1000000000) (hl : s.n.length + s.a.length + s.g.length < 400000) (_ : s.target ≤ 1000000000) :
    Calls Tryz.prog 99 #[.pointer (some ⟨b, 0, none⟩), .int .i64 (most : Nat)] w fun r w' => ∃ v, r = .returned v ∧ Holds g w' (OwnStrs v (s.resize most).2 :: IsSr b (s.resize most).1 :: F) := by
  obtain ⟨nb, ab, gb, mb, h⟩ := h.isSr
  obtain ⟨tg, htg⟩ : ∃ t, s.target = t := ⟨_, rfl⟩
  obtain ⟨T, hT⟩ : ∃ t, min tg most = t := ⟨_, rfl⟩
  obtain ⟨s1, hs1⟩ : ∃ s1 : Sr, ({ s with most := most, target := T } : Sr) = s1 := ⟨_, rfl⟩
  have hs1l : Hide (s1.len + s1.g.length < 400000 ∧ s1.most = most) := ⟨by rw [← hs1]; exact ⟨hl, rfl⟩⟩
  obtain ⟨n0, hn0⟩ : ∃ n, s1.len - most = n := ⟨_, rfl⟩
  have hres : Hide (s.resize most = ((Sr.evictN n0 s1).1.trim, (Sr.evictN n0 s1).2)) := ⟨by
    unfold Sr.resize
    dsimp only
    rw [htg, hT, hs1, hn0]⟩
  have hn0 := hide hn0
  obtain ⟨res, hre⟩ : ∃ res, s.resize most = res := ⟨_, rfl⟩
  rw [hre] at hres ⊢
  have f1 : max (most : Int) 0 = most := by omega
  have g2 : (if (most : Int) < (tg : Int) then (most : Int) else (tg : Int)) = (T : Int) := by split <;> omega
  have g3 : (if (tg : Int) < (most : Int) then (tg : Int) else (most : Int)) = (T : Int) := by split <;> omega
  have g5 : (if most < tg then (most : Int) else (tg : Int)) = (T : Int) := by split <;> omega
  have h0 := h
  unfold SrRaw at h
  rw [htg] at h
  have d0 := Holds.cell (off := 0) h rfl
  have d0f := Holds.free (off := 0) h
  have h1 := h.setCell (off := 0) (v := .int .i64 (most : Nat))
  have c0 := Holds.cell (off := 0) h1 rfl
  have c1 := Holds.cell (off := 1) h1 rfl
  have c1f := Holds.free (off := 1) h1
  have HT : Hide (Holds g ((w.setCell ⟨b, 0, none⟩ (.int .i64 (most : Nat))).setCell ⟨b, 1, none⟩ (.int .i64 (T : Nat))) (SrRaw b nb ab gb mb s1 F)) := ⟨by
    rw [← hs1]
    exact h1.setCell (off := 1) (v := .int .i64 (T : Nat))⟩
  clear h h0 h1 hre hs1 hT htg hl
  go_enter Tryz.func99, Tryz.ntmps99
  go_upto_region 2 with fail
  go_cut [13] (fun v wx => v = .pointer (some ⟨b, 0, none⟩) ∧ Holds g wx (SrRaw b nb ab gb mb s1 F))
  case first =>
    go_region_law (fail)
    all_goals
      go_wp2
      go_meet
      case rel => exact ⟨rfl, HT.out.drew⟩
  case rest =>
    obtain ⟨rfl, hc⟩ := hcut
    have HC := hide hc
    clear hc HT c0 c1 c1f d0 d0f f1 g2 g3 g5
    go_wp2
    go_loopg [5] (n0) (fun c o wr => ∃ i v, Hide (n0 - i = c) ∧ i ≤ n0 ∧ o = v ∧ Holds g wr (OwnStrs v (Sr.evictN i s1).2 :: IsSr b (Sr.evictN i s1).1 :: F))
    case atStart => exact ⟨0, _, ⟨rfl⟩, Nat.zero_le _, rfl, (Holds.toSr HC.out).ownNil _ _⟩
    case round =>
      clear HC
      obtain ⟨i, v, hci, hi, rfl, hh⟩ := hrel
      have hile : i ≤ s1.len := by have := hn0.out; omega
      obtain ⟨e1, e2, e3, e4⟩ := Sr.evictN_len i s1 hile
      obtain ⟨S, hS⟩ : ∃ S, (Sr.evictN i s1).1 = S := ⟨_, rfl⟩
      obtain ⟨L, hL⟩ : ∃ L, (Sr.evictN i s1).2 = L := ⟨_, rfl⟩
      have hsn := Sr.evictN_snoc i s1
      rw [hS, hL] at hsn
      rw [hS] at e1 e2 e3
      rw [hL] at e4
      rw [hS, hL] at hh
      obtain ⟨j, hj⟩ : ∃ j, S.len = j := ⟨_, rfl⟩
      have hsl := hs1l.out
      have cL := hide (fun m => Sr_Len ((Holds.p1 hh).drewN (n := m)) j hj (by omega))
      obtain ⟨nb, ab, gb, mb, hraw⟩ := (Holds.p1 hh).isSr
      obtain ⟨d0, _, _, _, _, _⟩ := srCells hraw
      rw [e3, hsl.2] at d0
      clear hraw
      have hh := hide hh
      have e1' : j + i = s1.len := by rw [← hj]; exact e1
      replace e1 := hide e1
      replace e2 := hide e2
      replace e3 := hide e3
      replace e4 := hide e4
      replace hsn := hide hsn
      replace hS := hide hS
      replace hL := hide hL
      have hi := hide hi
      replace e1' := hide e1'
      have hsl := hide hsl
      clear hile
      by_cases hlt : most < j
      · have f2 : decide ((most : Int) < j) = true := decide_eq_true (by omega)
        have f3 : decide (most < j) = true := decide_eq_true hlt
        obtain ⟨x, hx⟩ : ∃ x, kLast S.row = x := ⟨_, rfl⟩
        obtain ⟨hrow, _⟩ := S.evict_len1 (by omega)
        have hE : (!S.row.isEmpty) = true := bnot_isEmpty.2 hrow
        have hSg : S.g.length < 900000 := by have := e2.out; have := hsl.out; have := e1'.out; omega
        have cE := hide (fun m => Sr_evict ((Holds.p1 hh.out).drewN (n := m)) x hx true hE hSg)
        have hlL : Hide (L.length + 1 ≤ 2000000) := ⟨by have := e4.out; have := hsl.out; have := e1'.out; omega⟩
        have hsn2 : Hide (Sr.evictN (i + 1) s1 = (S.evict, L ++ [x])) := ⟨by rw [hsn.out, hx]⟩
        obtain ⟨ii, hii, hz0, hz1, hz2⟩ := info_parts infoStr
        have hii := hide hii
        have hz0 := hide hz0
        have hz1 := hide hz1
        have hz2 := hide hz2
        clear hx hE hSg hrow hj
        unfold OwnStrs at hh
        obtain ⟨ao, cap, rfl⟩ := rowForm hh.out.ownsRow
        unfold OwnStrs at cE
        go_wp2
        go_quiet ((go_at_call 93; exact Calls.quiet_of (cL.out _)))
        go_wp2_with (first
          | (go_at_call 179; (with_reducible refine (cE.out _).mono ?_); rintro r w3 ⟨rfl, h3⟩; have H12 := hide ((Holds.p1 h3).alloc' (o := .cells #[.string x] 9)); clear h3)
          | (at_builtin; refine wpList_append_own_at _ rfl _ _ 23 rfl g.heap.size 9 ii (.string ⟨#[]⟩) 1 16 Tryz.underlying23 hii.out hz0.out hz1.out hz2.out rfl (by decide) _ L.length (strs L) rfl H12.out.ownsRow _ 1 _ [.string x] rfl rfl (newCells1 _ _ _ _ (by simp)) (by simp [Value.oneCell']) (by simp only [maxLen]; have := hlL.out; omega) (by have := hlL.out; omega) H12.out.size ?_; intro vn wn o1 g1 _ hb1; obtain ⟨ao2, cap2, rfl⟩ := rowForm o1; have H13 := hide (H12.out.grown o1 g1 (by rcases hb1 with hb1 | hb1 <;> first | exact .inl hb1 | exact .inr ⟨_, hb1, Nat.le_refl _⟩)); clear o1 g1 hb1))
        go_roundg (n0 - (i + 1))
        case measure => rw [← hci.out]; have := hi.out; have := hn0.out; have := e1'.out; omega
        case rel =>
          refine ⟨i + 1, _, ⟨rfl⟩, by have := hi.out; have := hn0.out; have := e1'.out; omega, rfl, ?_⟩
          rw [hsn2.out]
          dsimp only
          unfold OwnStrs
          rw [List.length_append, List.length_singleton, strs_append]
          exact H13.out
      · have f2 : decide ((most : Int) < j) = false := decide_eq_false (by omega)
        have f3 : decide (most < j) = false := decide_eq_false hlt
        have hr : Hide (res = (S.trim, L)) := ⟨by
          rw [hres.out, show n0 = i by have := hi.out; have := hn0.out; have := e1'.out; omega, hS.out, hL.out]⟩
        have hlt := hide hlt
        obtain ⟨nb, ab, gb, mb, hraw⟩ := (Holds.p1 hh.out).isSr
        have hraw := hide hraw
        clear hj
        go_wp2
        go_quiet ((go_at_call 93; exact Calls.quiet_of (cL.out _)))
        go_wp2_with (go_at_call 181; (with_reducible refine (Sr_trim (hraw.out.drewN)).mono ?_); rintro r w3 ⟨rfl, h3⟩; have h3 := hide h3)
        go_ret
        refine ⟨_, rfl, ?_⟩
        rw [hr.out]
        exact (Holds.toSr h3.out).p1
end Go.Proofs.YtbbdimlpofjlfaaGreatDoor
/- srlru: Request of a key that is not resident; of any key. -/
namespace Go.Proofs.YtbbdimlpofjlfaaGreatDoor
open Go Go.RowKit

set_option maxRecDepth 100000 in
set_option maxHeartbeats 8000000 in
theorem Sr_RequestMiss {g w : World} {b : Nat} {s : Sr} {F : List SProp} (h : Holds g w (IsSr b s :: F)) (k : ByteArray) (hl : s.n.length + s.a.length + s.g.length < 700000) (hmt : s.most ≤ 1000000000 ∧ s.target ≤ 1000000000) (hhas : s.has k = false) :
    Calls Tryz.prog 94 #[.pointer (some ⟨b, 0, none⟩), .string k] w fun r w' => r = .returned (stepV (s.req k).2) ∧ Holds g w' (IsSr b (s.req k).1 :: F) := by
  obtain ⟨d, hd⟩ : ∃ d, s.has k = d := ⟨_, rfl⟩
  obtain ⟨da, hda⟩ : ∃ d, decide (k ∈ s.a) = d := ⟨_, rfl⟩
  obtain ⟨dn, hdn⟩ : ∃ d, decide (k ∈ s.n) = d := ⟨_, rfl⟩
  obtain ⟨known, hkn⟩ : ∃ d, s.marks.has k = d := ⟨_, rfl⟩
  obtain ⟨⟨mo, md⟩, hmk⟩ : ∃ d, (s.marks.get k).getD (false, false) = d := ⟨_, rfl⟩
  have HK := h.alloc (o := .cells #[.bool false, .string ⟨#[]⟩, .bool false] 34)
  have cH := hide (Sr_Has HK.p1 k d hd)
  have HA := HK.alloc (o := .cells #[.bool d, .string ⟨#[]⟩, .bool false] 34)
  obtain ⟨nb, ab, gb, mb, HA⟩ := HA.p2.isSr
  unfold SrRaw at HA
  have lk := (HA.p4).lookupOk (t := 254) Tryz.underlying254 Tryz.underlying9 zeroMark k
  rw [TMap.enc_has, TMap.enc_get, hkn] at lk
  have hmv : (Option.map encM (s.marks.get k)).getD (.agg #[.bool false, .bool false]) = .agg #[.bool mo, .bool md] := by
    have e : ∀ o : Option (Bool × Bool), o.getD (false, false) = (mo, md) → (Option.map encM o).getD (.agg #[.bool false, .bool false]) = .agg #[.bool mo, .bool md] := fun o ho => by
      cases o with
      | none => obtain ⟨rfl, rfl⟩ : false = mo ∧ false = md := Prod.mk.injEq .. ▸ ho; rfl
      | some p => obtain rfl : p = (mo, md) := ho; rfl
    exact e _ hmk
  rw [hmv] at lk
  have HB := HA.alloc (o := .cells #[.bool mo, .bool md] 258)
  have d5 := Holds.cell (off := 5) HA rfl
  simp only [World.size_alloc] at HB
  obtain ⟨r4, hr4⟩ : ∃ r4, w.heap.size = r4 := ⟨_, rfl⟩
  obtain ⟨r5, hr5⟩ : ∃ r5, r4 + 1 = r5 := ⟨_, rfl⟩
  obtain ⟨r6, hr6⟩ : ∃ r6, r5 + 1 = r6 := ⟨_, rfl⟩
  rw [hr4, hr5, hr6] at HB
  have HB := hide HB.p5.p5.p5.p5.p5
  obtain ⟨res, hres⟩ : ∃ res, Sr.req s k = res := ⟨_, rfl⟩
  rw [hres]
  have hres := hide hres
  have hda := hide hda
  have hdn := hide hdn
  have hkn := hide hkn
  have hmk := hide hmk
  have hhas := hide hhas
  have hd := hide hd
  have hl := hide hl
  have hmt := hide hmt
  clear h HA HK hmv
  go_enter Tryz.func94, Tryz.ntmps94
  go_upto_region 3 with (go_at_call 92; (with_reducible refine cH.out.mono ?_); rintro r w1 ⟨rfl, rfl⟩)
  try simp only [hr4, hr5, hr6]
  generalize ((w.alloc (.cells #[.bool false, .string ⟨#[]⟩, .bool false] 34)).alloc (.cells #[.bool d, .string ⟨#[]⟩, .bool false] 34)).alloc (.cells #[.bool mo, .bool md] 258) = W2 at HB ⊢
  clear hr4 hr5 hr6 lk d5 cH
  have HB : Hide (Holds g W2 (SrRaw b nb ab gb mb s (SrBox r4 r5 r6 d ⟨#[]⟩ false (mo, md) F))) := ⟨HB.out⟩
  obtain ⟨c0, c1, c2, c3, c4, c5⟩ := srCells HB.out
  have HS := hide (Holds.toSr HB.out)
  obtain ⟨⟨t0, t1, t2⟩, ⟨z0, z1, z2⟩, ⟨f0, f1, f2⟩, _⟩ := srBox HS.out
  obtain ⟨most, hmo⟩ : ∃ m, s.most = m := ⟨_, rfl⟩
  obtain ⟨tg, htg⟩ : ∃ m, s.target = m := ⟨_, rfl⟩
  rw [hmo] at c0
  rw [htg] at c1
  have hmo := hide hmo
  have htg := hide htg
  have hbd : Hide (most ≤ 1000000000 ∧ tg ≤ 1000000000) := ⟨by rw [← hmo.out, ← htg.out]; exact hmt.out⟩
  by_cases h0 : most = 0
  · subst h0
    go_wp2
    refine bodyPost_ret (ret_step rfl (srRet HS.out) rfl) rfl ?_
    rw [show res = (s, ⟨d, bNil, false⟩) by rw [← hres.out]; unfold Sr.req; rw [if_pos hmo.out, hd.out]]
    exact ⟨rfl, (srRet HS.out).drop⟩
  · have g0 : ((most : Int) == 0) = false := by rw [beq_eq_false_iff_ne]; omega
    have h0 := hide (show ¬ s.most = 0 by rw [hmo.out]; exact h0)
    have hdd : d = false := by rw [← hd.out]; exact hhas.out
    have hor : (dn || da) = false := by rw [← hdn.out, ← hda.out]; exact hhas.out
    obtain rfl : dn = false := by cases dn; rfl; cases hor
    obtain rfl : da = false := by cases da; rfl; cases hor
    subst hdd
    clear hor
    have cA := hide (List_Has (Holds.p2 HB.out) k false hda.out)
    have hkA := hide (of_decide_eq_false hda.out)
    have hkN := hide (of_decide_eq_false hdn.out)
    obtain ⟨T, hT⟩ : ∃ T, (if known = true ∧ mo = false ∧ 1 < tg then tg - 1 else tg) = T := ⟨_, rfl⟩
    obtain ⟨s1, hs1⟩ : ∃ s1 : Sr, ({ s with target := T, g := kDel s.g k } : Sr) = s1 := ⟨_, rfl⟩
    have hreq : Hide (∀ s2 x o, (if s1.most ≤ s1.len then (s1.evict, (kLast s1.row, !s1.row.isEmpty)) else (s1, (bNil, false))) = (s2, (x, o)) →
        res = (if known = true then (s2.again k, ⟨false, x, o⟩) else ({ s2 with n := kFront s2.n k, marks := s2.marks.put k (false, false) }, ⟨false, x, o⟩))) := ⟨fun s2 x o e => by
      subst hs1
      rw [← hres.out]
      unfold Sr.req
      rw [if_neg h0.out, if_neg hkA.out, if_neg hkN.out]
      dsimp only
      rw [hkn.out, hmk.out, htg.out]
      dsimp only
      rw [hT]
      by_cases hf : s.most ≤ Sr.len { s with target := T, g := kDel s.g k }
      · rw [if_pos hf] at e
        cases e
        rw [decide_eq_true hf, if_pos rfl, if_pos rfl]
      · rw [if_neg hf] at e
        cases e
        simp only [decide_eq_false hf, Bool.false_eq_true, ite_false]⟩
    have y0 : W2.cell? ⟨r6, 0, none⟩ = some (.bool mo) := by have := HS.out; unfold SrBox at this; exact (cells2 this.p1).1
    have y1 : W2.cell? ⟨r6, 1, none⟩ = some (.bool md) := by have := HS.out; unfold SrBox at this; exact (cells2 this.p1).2
    obtain ⟨dg, hdg⟩ : ∃ d, decide (k ∈ s.g) = d := ⟨_, rfl⟩
    replace hdg := hide hdg
    obtain ⟨n1, hn1⟩ : ∃ n, s1.len = n := ⟨_, rfl⟩
    have hb1 : Hide (s1.n.length + s1.a.length < 700000 ∧ s1.g.length < 700000 ∧ s1.most = most) := ⟨by
      rw [← hs1]
      have := hl.out
      have h2 : (kDel s.g k).length ≤ s.g.length := List.length_filter_le _ _
      exact ⟨by dsimp only; omega, by dsimp only; omega, hmo.out⟩⟩
    have hln1 : s1.len < 1000000 := by have := hb1.out.1; unfold Sr.len; omega
    replace hln1 := hide hln1
    replace hn1 := hide hn1
    have hcase : (known = false) ∨ (known = true ∧ mo = true) ∨ (known = true ∧ mo = false ∧ 1 < tg) ∨ (known = true ∧ mo = false ∧ ¬ 1 < tg) := by
      cases known
      · exact .inl rfl
      · cases mo
        · by_cases h : 1 < tg
          · exact .inr (.inr (.inl ⟨rfl, rfl, h⟩))
          · exact .inr (.inr (.inr ⟨rfl, rfl, h⟩))
        · exact .inr (.inl ⟨rfl, rfl⟩)
    rcases hcase with rfl | ⟨rfl, rfl⟩ | ⟨rfl, rfl, htg1⟩ | ⟨rfl, rfl, htg1⟩
    · obtain rfl : tg = T := by rw [← hT]; rw [if_neg (by rintro ⟨h, _⟩; cases h)]
      clear hT
      go_upto_region 17 with (first
        | (go_at_call 160; (with_reducible refine cA.out.mono ?_); rintro r w1 ⟨rfl, rfl⟩)
        | (go_at_call 164; (with_reducible refine (List_Remove (Holds.p3 HB.out) k dg hdg.out).mono ?_); rintro r w3 ⟨rfl, h3⟩; have h3 := hide h3))
      have HS3 : Hide (Holds g w3 (IsSr b s1 :: SrBox r4 r5 r6 false ⟨#[]⟩ false (_, md) F)) := ⟨by
        rw [← hs1]
        refine Holds.toSr (nb := nb) (ab := ab) (gb := gb) (mb := mb) ?_
        unfold SrRaw
        have := h3.out
        first | exact this.p3.p3.p3 | (rw [← htg.out]; exact this.p3.p3.p3)⟩
      have cL := hide (fun m => Sr_Len (HS3.out.drewN (n := m)) n1 hn1.out hln1.out)
      have d0 : w3.cell? ⟨b, 0, none⟩ = some (.int .i64 (most : Nat)) := by
        obtain ⟨_, _, _, _, hq⟩ := HS3.out.isSr
        have := (srCells hq).1
        rw [hb1.out.2.2] at this
        exact this
      clear h3 cA HS HB
      by_cases hf : most ≤ n1
      · have hf1 : (most : Int) ≤ n1 := by omega
        have hf2 : decide ((most : Int) ≤ n1) = true := decide_eq_true hf1
        obtain ⟨x, hx⟩ : ∃ x, kLast s1.row = x := ⟨_, rfl⟩
        obtain ⟨o, ho⟩ : ∃ o, (!s1.row.isEmpty) = o := ⟨_, rfl⟩
        obtain ⟨s2, hs2⟩ : ∃ s2, s1.evict = s2 := ⟨_, rfl⟩
        have hr := hide ((hreq.out s2 x o (by rw [if_pos (by rw [hb1.out.2.2, hn1.out]; exact hf), hx, ho, hs2])).trans (if_neg (fun h => by cases h)))
        have hl2 : Hide (s2.n.length + s2.a.length < 700000) := ⟨by rw [← hs2]; have := Sr.evict_len s1; have := hb1.out.1; omega⟩
        have cE := hide (fun m => Sr_evict (HS3.out.drewN (n := m)) x hx o ho (by have := hb1.out.2.1; omega))
        rw [hs2] at cE
        obtain ⟨⟨t0, t1, t2⟩, ⟨z0, z1, z2⟩, ⟨f0, f1, f2⟩, _⟩ := srBox HS3.out
        replace hx := hide hx
        replace ho := hide ho
        replace hs2 := hide hs2
        go_quiet ((go_at_call 93; exact Calls.quiet_of (cL.out _)))
        go_upto_region 19 with (go_at_call 179; (with_reducible refine (cE.out _).mono ?_); rintro r w5 ⟨rfl, h5⟩; obtain ⟨⟨t0, t1, t2⟩, _, _, ⟨g5, g6⟩⟩ := srBox h5; have h5 := hide h5)
        have HE : Hide (Holds g ((w5.setCell ⟨r5, 1, none⟩ (.string x)).setCell ⟨r5, 2, none⟩ (.bool o)) (IsSr b s2 :: SrBox r4 r5 r6 false x o (_, md) F)) := ⟨by
          have := h5.out
          unfold SrBox at this ⊢
          exact (setAt (setAt (Holds.p2 this) (off := 1) (v := .string x) (cs' := #[.bool false, .string x, .bool false]) rfl) (off := 2) (v := .bool o) (cs' := #[.bool false, .string x, .bool o]) rfl).p2.p2⟩
        clear HS3 cL d0 t0 t1 t2 z0 z1 z2 f0 f1 f2 g5 g6 h5 cE
        obtain ⟨nb2, ab2, gb2, mb2, HF⟩ := HE.out.isSr
        obtain ⟨_, _, c2, _, _, c5⟩ := srCells HF
        have hln : s2.n.length < 900000 := by have := hl2.out; omega
        replace hln := hide hln
        unfold SrRaw at HF
        replace HF := hide HF
        go_upto_region 23 with (go_at_call 163; (with_reducible refine (List_Front (Holds.p1 HF.out) k hln.out).mono ?_); rintro r w6 ⟨rfl, h6⟩; have h6 := hide h6; have c5 := Holds.cell (off := 5) (Holds.p1 h6.out) rfl)
        obtain ⟨w7, hup, H7⟩ := (Holds.p4 h6.out).updateMap (P := Tryz.prog) (t := 254) Tryz.underlying254 Tryz.underlying9 k (encM (false, false))
        rw [TMap.enc_put] at H7
        unfold encM at hup
        have H8 : Hide (Holds g w7 (IsSr b { s2 with n := kFront s2.n k, marks := s2.marks.put k (false, false) } :: SrBox r4 r5 r6 false x o (_, md) F)) := ⟨by
          refine Holds.toSr (nb := nb2) (ab := ab2) (gb := gb2) (mb := mb2) ?_
          unfold SrRaw
          exact H7.p4.p4.p3.p4⟩
        clear H7
        obtain ⟨⟨t0, t1, t2⟩, ⟨z0, z1, z2⟩, ⟨f0, f1, f2⟩, _⟩ := srBox H8.out
        go_wp2
        refine bodyPost_ret (ret_step rfl (srRet H8.out) rfl) rfl ?_
        rw [hr.out]
        exact ⟨rfl, (srRet H8.out).drop⟩
      · have hf1 : ¬ (most : Int) ≤ n1 := by omega
        have hf2 : decide ((most : Int) ≤ n1) = false := decide_eq_false hf1
        obtain ⟨s2, hs2⟩ : ∃ s2, s1 = s2 := ⟨_, rfl⟩
        obtain ⟨x, hx⟩ : ∃ x, bNil = x := ⟨_, rfl⟩
        obtain ⟨o, ho⟩ : ∃ o, false = o := ⟨_, rfl⟩
        have hr := hide ((hreq.out s2 x o (by rw [if_neg (by rw [hb1.out.2.2, hn1.out]; exact hf), hx, ho, hs2])).trans (if_neg (fun h => by cases h)))
        have hl2 : Hide (s2.n.length + s2.a.length < 700000) := ⟨by rw [← hs2]; exact hb1.out.1⟩
        have HE : Hide (Holds g w3 (IsSr b s2 :: SrBox r4 r5 r6 false x o (_, md) F)) := ⟨by rw [← hs2, ← hx, ← ho]; exact HS3.out⟩
        replace hx := hide hx
        replace ho := hide ho
        replace hs2 := hide hs2
        go_quiet ((go_at_call 93; exact Calls.quiet_of (cL.out _)))
        go_upto_region 19 with fail
        have HE := hide (HE.out.drewN (n := nq))
        clear HS3 cL d0
        obtain ⟨nb2, ab2, gb2, mb2, HF⟩ := HE.out.isSr
        obtain ⟨_, _, c2, _, _, c5⟩ := srCells HF
        have hln : s2.n.length < 900000 := by have := hl2.out; omega
        replace hln := hide hln
        unfold SrRaw at HF
        replace HF := hide HF
        go_upto_region 23 with (go_at_call 163; (with_reducible refine (List_Front (Holds.p1 HF.out) k hln.out).mono ?_); rintro r w6 ⟨rfl, h6⟩; have h6 := hide h6; have c5 := Holds.cell (off := 5) (Holds.p1 h6.out) rfl)
        obtain ⟨w7, hup, H7⟩ := (Holds.p4 h6.out).updateMap (P := Tryz.prog) (t := 254) Tryz.underlying254 Tryz.underlying9 k (encM (false, false))
        rw [TMap.enc_put] at H7
        unfold encM at hup
        have H8 : Hide (Holds g w7 (IsSr b { s2 with n := kFront s2.n k, marks := s2.marks.put k (false, false) } :: SrBox r4 r5 r6 false x o (_, md) F)) := ⟨by
          refine Holds.toSr (nb := nb2) (ab := ab2) (gb := gb2) (mb := mb2) ?_
          unfold SrRaw
          exact H7.p4.p4.p3.p4⟩
        clear H7
        obtain ⟨⟨t0, t1, t2⟩, ⟨z0, z1, z2⟩, ⟨f0, f1, f2⟩, _⟩ := srBox H8.out
        go_wp2
        refine bodyPost_ret (ret_step rfl (srRet H8.out) rfl) rfl ?_
        rw [hr.out]
        exact ⟨rfl, (srRet H8.out).drop⟩
    · obtain rfl : tg = T := by rw [← hT]; rw [if_neg (by rintro ⟨_, h, _⟩; cases h)]
      clear hT
      go_upto_region 17 with (first
        | (go_at_call 160; (with_reducible refine cA.out.mono ?_); rintro r w1 ⟨rfl, rfl⟩)
        | (go_at_call 164; (with_reducible refine (List_Remove (Holds.p3 HB.out) k dg hdg.out).mono ?_); rintro r w3 ⟨rfl, h3⟩; have h3 := hide h3))
      have HS3 : Hide (Holds g w3 (IsSr b s1 :: SrBox r4 r5 r6 false ⟨#[]⟩ false (_, md) F)) := ⟨by
        rw [← hs1]
        refine Holds.toSr (nb := nb) (ab := ab) (gb := gb) (mb := mb) ?_
        unfold SrRaw
        have := h3.out
        first | exact this.p3.p3.p3 | (rw [← htg.out]; exact this.p3.p3.p3)⟩
      have cL := hide (fun m => Sr_Len (HS3.out.drewN (n := m)) n1 hn1.out hln1.out)
      have d0 : w3.cell? ⟨b, 0, none⟩ = some (.int .i64 (most : Nat)) := by
        obtain ⟨_, _, _, _, hq⟩ := HS3.out.isSr
        have := (srCells hq).1
        rw [hb1.out.2.2] at this
        exact this
      clear h3 cA HS HB
      by_cases hf : most ≤ n1
      · have hf1 : (most : Int) ≤ n1 := by omega
        have hf2 : decide ((most : Int) ≤ n1) = true := decide_eq_true hf1
        obtain ⟨x, hx⟩ : ∃ x, kLast s1.row = x := ⟨_, rfl⟩
        obtain ⟨o, ho⟩ : ∃ o, (!s1.row.isEmpty) = o := ⟨_, rfl⟩
        obtain ⟨s2, hs2⟩ : ∃ s2, s1.evict = s2 := ⟨_, rfl⟩
        have hr := hide ((hreq.out s2 x o (by rw [if_pos (by rw [hb1.out.2.2, hn1.out]; exact hf), hx, ho, hs2])).trans (if_pos trivial))
        have hl2 : Hide (s2.n.length + s2.a.length < 700000) := ⟨by rw [← hs2]; have := Sr.evict_len s1; have := hb1.out.1; omega⟩
        have cE := hide (fun m => Sr_evict (HS3.out.drewN (n := m)) x hx o ho (by have := hb1.out.2.1; omega))
        rw [hs2] at cE
        obtain ⟨⟨t0, t1, t2⟩, ⟨z0, z1, z2⟩, ⟨f0, f1, f2⟩, _⟩ := srBox HS3.out
        replace hx := hide hx
        replace ho := hide ho
        replace hs2 := hide hs2
        go_quiet ((go_at_call 93; exact Calls.quiet_of (cL.out _)))
        go_upto_region 19 with (go_at_call 179; (with_reducible refine (cE.out _).mono ?_); rintro r w5 ⟨rfl, h5⟩; obtain ⟨⟨t0, t1, t2⟩, _, _, ⟨g5, g6⟩⟩ := srBox h5; have h5 := hide h5)
        have HE : Hide (Holds g ((w5.setCell ⟨r5, 1, none⟩ (.string x)).setCell ⟨r5, 2, none⟩ (.bool o)) (IsSr b s2 :: SrBox r4 r5 r6 false x o (_, md) F)) := ⟨by
          have := h5.out
          unfold SrBox at this ⊢
          exact (setAt (setAt (Holds.p2 this) (off := 1) (v := .string x) (cs' := #[.bool false, .string x, .bool false]) rfl) (off := 2) (v := .bool o) (cs' := #[.bool false, .string x, .bool o]) rfl).p2.p2⟩
        clear HS3 cL d0 t0 t1 t2 z0 z1 z2 f0 f1 f2 g5 g6 h5 cE
        obtain ⟨⟨t0, t1, t2⟩, ⟨z0, z1, z2⟩, ⟨f0, f1, f2⟩, _⟩ := srBox HE.out
        go_wp2_with (go_at_call 178; (with_reducible refine (Sr_again HE.out k (by have := hl2.out; omega)).mono ?_); rintro r w6 ⟨rfl, h6⟩; have h6 := hide h6; obtain ⟨⟨t0, t1, t2⟩, ⟨z0, z1, z2⟩, ⟨f0, f1, f2⟩, _⟩ := srBox h6.out)
        refine bodyPost_ret (ret_step rfl (srRet h6.out) rfl) rfl ?_
        rw [hr.out]
        exact ⟨rfl, (srRet h6.out).drop⟩
      · have hf1 : ¬ (most : Int) ≤ n1 := by omega
        have hf2 : decide ((most : Int) ≤ n1) = false := decide_eq_false hf1
        obtain ⟨s2, hs2⟩ : ∃ s2, s1 = s2 := ⟨_, rfl⟩
        obtain ⟨x, hx⟩ : ∃ x, bNil = x := ⟨_, rfl⟩
        obtain ⟨o, ho⟩ : ∃ o, false = o := ⟨_, rfl⟩
        have hr := hide ((hreq.out s2 x o (by rw [if_neg (by rw [hb1.out.2.2, hn1.out]; exact hf), hx, ho, hs2])).trans (if_pos trivial))
        have hl2 : Hide (s2.n.length + s2.a.length < 700000) := ⟨by rw [← hs2]; exact hb1.out.1⟩
        have HE : Hide (Holds g w3 (IsSr b s2 :: SrBox r4 r5 r6 false x o (_, md) F)) := ⟨by rw [← hs2, ← hx, ← ho]; exact HS3.out⟩
        replace hx := hide hx
        replace ho := hide ho
        replace hs2 := hide hs2
        go_quiet ((go_at_call 93; exact Calls.quiet_of (cL.out _)))
        go_upto_region 19 with fail
        have HE := hide (HE.out.drewN (n := nq))
        clear HS3 cL d0
        obtain ⟨⟨t0, t1, t2⟩, ⟨z0, z1, z2⟩, ⟨f0, f1, f2⟩, _⟩ := srBox HE.out
        go_wp2_with (go_at_call 178; (with_reducible refine (Sr_again HE.out k (by have := hl2.out; omega)).mono ?_); rintro r w6 ⟨rfl, h6⟩; have h6 := hide h6; obtain ⟨⟨t0, t1, t2⟩, ⟨z0, z1, z2⟩, ⟨f0, f1, f2⟩, _⟩ := srBox h6.out)
        refine bodyPost_ret (ret_step rfl (srRet h6.out) rfl) rfl ?_
        rw [hr.out]
        exact ⟨rfl, (srRet h6.out).drop⟩
    · have hT2 : T = tg - 1 := by rw [← hT]; rw [if_pos ⟨rfl, rfl, htg1⟩]
      have htg1' : (1 : Int) < tg := by omega
      have g1 : IntKind.i64.wrap ((tg : Int) - 1) = (T : Int) := by rw [IntWalk.i64_in _ (by have := hbd.out; omega)]; omega
      have c1f : W2.frozen? ⟨b, 1, none⟩ = false := Holds.free HB.out
      have HT : Hide (Holds g (W2.setCell ⟨b, 1, none⟩ (.int .i64 (T : Nat))) (SrRaw b nb ab gb mb { s with target := T } (SrBox r4 r5 r6 false ⟨#[]⟩ false (false, md) F))) := ⟨by
        have := HB.out
        unfold SrRaw at this
        exact this.setCell (off := 1) (v := .int .i64 (T : Nat))⟩
      have c4' := (srCells HT.out).2.2.2.2.1
      clear htg1 hT2
      clear hT
      go_upto_region 17 with (first
        | (go_at_call 160; (with_reducible refine cA.out.mono ?_); rintro r w1 ⟨rfl, rfl⟩)
        | (go_at_call 164; (with_reducible refine (List_Remove (Holds.p3 HT.out) k dg hdg.out).mono ?_); rintro r w3 ⟨rfl, h3⟩; have h3 := hide h3))
      have HS3 : Hide (Holds g w3 (IsSr b s1 :: SrBox r4 r5 r6 false ⟨#[]⟩ false (_, md) F)) := ⟨by
        rw [← hs1]
        refine Holds.toSr (nb := nb) (ab := ab) (gb := gb) (mb := mb) ?_
        unfold SrRaw
        have := h3.out
        first | exact this.p3.p3.p3 | (rw [← htg.out]; exact this.p3.p3.p3)⟩
      have cL := hide (fun m => Sr_Len (HS3.out.drewN (n := m)) n1 hn1.out hln1.out)
      have d0 : w3.cell? ⟨b, 0, none⟩ = some (.int .i64 (most : Nat)) := by
        obtain ⟨_, _, _, _, hq⟩ := HS3.out.isSr
        have := (srCells hq).1
        rw [hb1.out.2.2] at this
        exact this
      clear h3 cA HS HB
      by_cases hf : most ≤ n1
      · have hf1 : (most : Int) ≤ n1 := by omega
        have hf2 : decide ((most : Int) ≤ n1) = true := decide_eq_true hf1
        obtain ⟨x, hx⟩ : ∃ x, kLast s1.row = x := ⟨_, rfl⟩
        obtain ⟨o, ho⟩ : ∃ o, (!s1.row.isEmpty) = o := ⟨_, rfl⟩
        obtain ⟨s2, hs2⟩ : ∃ s2, s1.evict = s2 := ⟨_, rfl⟩
        have hr := hide ((hreq.out s2 x o (by rw [if_pos (by rw [hb1.out.2.2, hn1.out]; exact hf), hx, ho, hs2])).trans (if_pos trivial))
        have hl2 : Hide (s2.n.length + s2.a.length < 700000) := ⟨by rw [← hs2]; have := Sr.evict_len s1; have := hb1.out.1; omega⟩
        have cE := hide (fun m => Sr_evict (HS3.out.drewN (n := m)) x hx o ho (by have := hb1.out.2.1; omega))
        rw [hs2] at cE
        obtain ⟨⟨t0, t1, t2⟩, ⟨z0, z1, z2⟩, ⟨f0, f1, f2⟩, _⟩ := srBox HS3.out
        replace hx := hide hx
        replace ho := hide ho
        replace hs2 := hide hs2
        go_quiet ((go_at_call 93; exact Calls.quiet_of (cL.out _)))
        go_upto_region 19 with (go_at_call 179; (with_reducible refine (cE.out _).mono ?_); rintro r w5 ⟨rfl, h5⟩; obtain ⟨⟨t0, t1, t2⟩, _, _, ⟨g5, g6⟩⟩ := srBox h5; have h5 := hide h5)
        have HE : Hide (Holds g ((w5.setCell ⟨r5, 1, none⟩ (.string x)).setCell ⟨r5, 2, none⟩ (.bool o)) (IsSr b s2 :: SrBox r4 r5 r6 false x o (_, md) F)) := ⟨by
          have := h5.out
          unfold SrBox at this ⊢
          exact (setAt (setAt (Holds.p2 this) (off := 1) (v := .string x) (cs' := #[.bool false, .string x, .bool false]) rfl) (off := 2) (v := .bool o) (cs' := #[.bool false, .string x, .bool o]) rfl).p2.p2⟩
        clear HS3 cL d0 t0 t1 t2 z0 z1 z2 f0 f1 f2 g5 g6 h5 cE
        obtain ⟨⟨t0, t1, t2⟩, ⟨z0, z1, z2⟩, ⟨f0, f1, f2⟩, _⟩ := srBox HE.out
        go_wp2_with (go_at_call 178; (with_reducible refine (Sr_again HE.out k (by have := hl2.out; omega)).mono ?_); rintro r w6 ⟨rfl, h6⟩; have h6 := hide h6; obtain ⟨⟨t0, t1, t2⟩, ⟨z0, z1, z2⟩, ⟨f0, f1, f2⟩, _⟩ := srBox h6.out)
        refine bodyPost_ret (ret_step rfl (srRet h6.out) rfl) rfl ?_
        rw [hr.out]
        exact ⟨rfl, (srRet h6.out).drop⟩
      · have hf1 : ¬ (most : Int) ≤ n1 := by omega
        have hf2 : decide ((most : Int) ≤ n1) = false := decide_eq_false hf1
        obtain ⟨s2, hs2⟩ : ∃ s2, s1 = s2 := ⟨_, rfl⟩
        obtain ⟨x, hx⟩ : ∃ x, bNil = x := ⟨_, rfl⟩
        obtain ⟨o, ho⟩ : ∃ o, false = o := ⟨_, rfl⟩
        have hr := hide ((hreq.out s2 x o (by rw [if_neg (by rw [hb1.out.2.2, hn1.out]; exact hf), hx, ho, hs2])).trans (if_pos trivial))
        have hl2 : Hide (s2.n.length + s2.a.length < 700000) := ⟨by rw [← hs2]; exact hb1.out.1⟩
        have HE : Hide (Holds g w3 (IsSr b s2 :: SrBox r4 r5 r6 false x o (_, md) F)) := ⟨by rw [← hs2, ← hx, ← ho]; exact HS3.out⟩
        replace hx := hide hx
        replace ho := hide ho
        replace hs2 := hide hs2
        go_quiet ((go_at_call 93; exact Calls.quiet_of (cL.out _)))
        go_upto_region 19 with fail
        have HE := hide (HE.out.drewN (n := nq))
        clear HS3 cL d0
        obtain ⟨⟨t0, t1, t2⟩, ⟨z0, z1, z2⟩, ⟨f0, f1, f2⟩, _⟩ := srBox HE.out
        go_wp2_with (go_at_call 178; (with_reducible refine (Sr_again HE.out k (by have := hl2.out; omega)).mono ?_); rintro r w6 ⟨rfl, h6⟩; have h6 := hide h6; obtain ⟨⟨t0, t1, t2⟩, ⟨z0, z1, z2⟩, ⟨f0, f1, f2⟩, _⟩ := srBox h6.out)
        refine bodyPost_ret (ret_step rfl (srRet h6.out) rfl) rfl ?_
        rw [hr.out]
        exact ⟨rfl, (srRet h6.out).drop⟩
    · obtain rfl : tg = T := by rw [← hT]; rw [if_neg (by rintro ⟨_, _, h⟩; exact htg1 h)]
      have htg1' : ¬ (1 : Int) < tg := by omega
      clear hT
      go_upto_region 17 with (first
        | (go_at_call 160; (with_reducible refine cA.out.mono ?_); rintro r w1 ⟨rfl, rfl⟩)
        | (go_at_call 164; (with_reducible refine (List_Remove (Holds.p3 HB.out) k dg hdg.out).mono ?_); rintro r w3 ⟨rfl, h3⟩; have h3 := hide h3))
      have HS3 : Hide (Holds g w3 (IsSr b s1 :: SrBox r4 r5 r6 false ⟨#[]⟩ false (_, md) F)) := ⟨by
        rw [← hs1]
        refine Holds.toSr (nb := nb) (ab := ab) (gb := gb) (mb := mb) ?_
        unfold SrRaw
        have := h3.out
        first | exact this.p3.p3.p3 | (rw [← htg.out]; exact this.p3.p3.p3)⟩
      have cL := hide (fun m => Sr_Len (HS3.out.drewN (n := m)) n1 hn1.out hln1.out)
      have d0 : w3.cell? ⟨b, 0, none⟩ = some (.int .i64 (most : Nat)) := by
        obtain ⟨_, _, _, _, hq⟩ := HS3.out.isSr
        have := (srCells hq).1
        rw [hb1.out.2.2] at this
        exact this
      clear h3 cA HS HB
      by_cases hf : most ≤ n1
      · have hf1 : (most : Int) ≤ n1 := by omega
        have hf2 : decide ((most : Int) ≤ n1) = true := decide_eq_true hf1
        obtain ⟨x, hx⟩ : ∃ x, kLast s1.row = x := ⟨_, rfl⟩
        obtain ⟨o, ho⟩ : ∃ o, (!s1.row.isEmpty) = o := ⟨_, rfl⟩
        obtain ⟨s2, hs2⟩ : ∃ s2, s1.evict = s2 := ⟨_, rfl⟩
        have hr := hide ((hreq.out s2 x o (by rw [if_pos (by rw [hb1.out.2.2, hn1.out]; exact hf), hx, ho, hs2])).trans (if_pos trivial))
        have hl2 : Hide (s2.n.length + s2.a.length < 700000) := ⟨by rw [← hs2]; have := Sr.evict_len s1; have := hb1.out.1; omega⟩
        have cE := hide (fun m => Sr_evict (HS3.out.drewN (n := m)) x hx o ho (by have := hb1.out.2.1; omega))
        rw [hs2] at cE
        obtain ⟨⟨t0, t1, t2⟩, ⟨z0, z1, z2⟩, ⟨f0, f1, f2⟩, _⟩ := srBox HS3.out
        replace hx := hide hx
        replace ho := hide ho
        replace hs2 := hide hs2
        go_quiet ((go_at_call 93; exact Calls.quiet_of (cL.out _)))
        go_upto_region 19 with (go_at_call 179; (with_reducible refine (cE.out _).mono ?_); rintro r w5 ⟨rfl, h5⟩; obtain ⟨⟨t0, t1, t2⟩, _, _, ⟨g5, g6⟩⟩ := srBox h5; have h5 := hide h5)
        have HE : Hide (Holds g ((w5.setCell ⟨r5, 1, none⟩ (.string x)).setCell ⟨r5, 2, none⟩ (.bool o)) (IsSr b s2 :: SrBox r4 r5 r6 false x o (_, md) F)) := ⟨by
          have := h5.out
          unfold SrBox at this ⊢
          exact (setAt (setAt (Holds.p2 this) (off := 1) (v := .string x) (cs' := #[.bool false, .string x, .bool false]) rfl) (off := 2) (v := .bool o) (cs' := #[.bool false, .string x, .bool o]) rfl).p2.p2⟩
        clear HS3 cL d0 t0 t1 t2 z0 z1 z2 f0 f1 f2 g5 g6 h5 cE
        obtain ⟨⟨t0, t1, t2⟩, ⟨z0, z1, z2⟩, ⟨f0, f1, f2⟩, _⟩ := srBox HE.out
        go_wp2_with (go_at_call 178; (with_reducible refine (Sr_again HE.out k (by have := hl2.out; omega)).mono ?_); rintro r w6 ⟨rfl, h6⟩; have h6 := hide h6; obtain ⟨⟨t0, t1, t2⟩, ⟨z0, z1, z2⟩, ⟨f0, f1, f2⟩, _⟩ := srBox h6.out)
        refine bodyPost_ret (ret_step rfl (srRet h6.out) rfl) rfl ?_
        rw [hr.out]
        exact ⟨rfl, (srRet h6.out).drop⟩
      · have hf1 : ¬ (most : Int) ≤ n1 := by omega
        have hf2 : decide ((most : Int) ≤ n1) = false := decide_eq_false hf1
        obtain ⟨s2, hs2⟩ : ∃ s2, s1 = s2 := ⟨_, rfl⟩
        obtain ⟨x, hx⟩ : ∃ x, bNil = x := ⟨_, rfl⟩
        obtain ⟨o, ho⟩ : ∃ o, false = o := ⟨_, rfl⟩
        have hr := hide ((hreq.out s2 x o (by rw [if_neg (by rw [hb1.out.2.2, hn1.out]; exact hf), hx, ho, hs2])).trans (if_pos trivial))
        have hl2 : Hide (s2.n.length + s2.a.length < 700000) := ⟨by rw [← hs2]; exact hb1.out.1⟩
        have HE : Hide (Holds g w3 (IsSr b s2 :: SrBox r4 r5 r6 false x o (_, md) F)) := ⟨by rw [← hs2, ← hx, ← ho]; exact HS3.out⟩
        replace hx := hide hx
        replace ho := hide ho
        replace hs2 := hide hs2
        go_quiet ((go_at_call 93; exact Calls.quiet_of (cL.out _)))
        go_upto_region 19 with fail
        have HE := hide (HE.out.drewN (n := nq))
        clear HS3 cL d0
        obtain ⟨⟨t0, t1, t2⟩, ⟨z0, z1, z2⟩, ⟨f0, f1, f2⟩, _⟩ := srBox HE.out
        go_wp2_with (go_at_call 178; (with_reducible refine (Sr_again HE.out k (by have := hl2.out; omega)).mono ?_); rintro r w6 ⟨rfl, h6⟩; have h6 := hide h6; obtain ⟨⟨t0, t1, t2⟩, ⟨z0, z1, z2⟩, ⟨f0, f1, f2⟩, _⟩ := srBox h6.out)
        refine bodyPost_ret (ret_step rfl (srRet h6.out) rfl) rfl ?_
        rw [hr.out]
        exact ⟨rfl, (srRet h6.out).drop⟩
theorem Sr_RequestAny {g w : World} {b : Nat} {s : Sr} {F : List SProp} (h : Holds g w (IsSr b s :: F)) (k : ByteArray) (hl : s.n.length + s.a.length + s.g.length < 700000) (hmt : s.most ≤ 1000000000 ∧ s.target ≤ s.most) :
    Calls Tryz.prog 94 #[.pointer (some ⟨b, 0, none⟩), .string k] w fun r w' => r = .returned (stepV (s.req k).2) ∧ Holds g w' (IsSr b (s.req k).1 :: F) := by
  cases hk : s.has k with
  | true => exact Sr_RequestHit h k hl hmt hk
  | false => exact Sr_RequestMiss h k hl ⟨hmt.1, Nat.le_trans hmt.2 hmt.1⟩ hk
end Go.Proofs.YtbbdimlpofjlfaaGreatDoor
