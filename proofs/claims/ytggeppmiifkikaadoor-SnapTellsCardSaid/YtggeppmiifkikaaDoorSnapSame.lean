/- cachewiseref16.Same: two pictures. -/
import Derived.Test.YtggeppmiifkikaaDoorSnapOf
import Derived.Deep.DeepCutAuto
namespace Go.Proofs.YtggeppmiifkikaaDoor
open Go Go.RowKit Go.Shelf

theorem list_cases : ∀ (l m : List It), l.length = m.length → l = m ∨ ∃ (j : Nat) (x y : It), l[j]? = some x ∧ m[j]? = some y ∧ x ≠ y ∧ ∀ i, i < j → l[i]? = m[i]?
  | [], [], _ => .inl rfl
  | x :: l, y :: m, h => by
    by_cases hxy : x = y
    · subst hxy
      rcases list_cases l m (by simpa using h) with rfl | ⟨j, a, b, h1, h2, h3, h4⟩
      · exact .inl rfl
      · refine .inr ⟨j + 1, a, b, h1, h2, h3, fun i hi => ?_⟩
        cases i with
        | zero => rfl
        | succ i => exact h4 i (by omega)
    · exact .inr ⟨0, x, y, rfl, rfl, hxy, fun i hi => by omega⟩
theorem beq_ff {a b : Int} (h : a ≠ b) : (a == b) = false := beq_eq_false_iff_ne.2 h
theorem it_cases (x y : It) (h : x ≠ y) : x.key ≠ y.key ∨ (x.key = y.key ∧ x.val ≠ y.val) ∨ (x.key = y.key ∧ x.val = y.val ∧ x.dl ≠ y.dl) := by
  obtain ⟨k, v, d⟩ := x
  obtain ⟨k', v', d'⟩ := y
  by_cases h1 : k = k'
  · by_cases h2 : v = v'
    · by_cases h3 : d = d'
      · subst h1 h2 h3; exact absurd rfl h
      · exact .inr (.inr ⟨h1, h2, h3⟩)
    · exact .inr (.inl ⟨h1, h2⟩)
  · exact .inl h1
theorem bytes_ne {a b : ByteArray} (h : a ≠ b) : (a.toList == b.toList) = false := beq_eq_false_iff_ne.2 fun he => h (bytes_inj he)
set_option maxRecDepth 100000 in
set_option maxHeartbeats 16000000 in
theorem Same_any (p q : Pic) (u v : Value) (w : World) (hu : ItemsAt w u p.items) (hv : ItemsAt w v q.items) (hl : p.items.length ≤ 100000) (d : Bool) (hd : p = q ↔ d = true) :
    Calls Tryd.prog 20 #[.agg (picCells p u), .agg (picCells q v)] w fun r w' => r = .returned (.bool d) ∧ Keep w w' := by
  obtain ⟨⟨s0, s1, s2, s3, s4, s5, s6⟩, s7, s8, l⟩ := p
  obtain ⟨⟨t0, t1, t2, t3, t4, t5, t6⟩, t7, t8, m⟩ := q
  dsimp only at hu hv hl
  obtain ⟨n, hn⟩ : ∃ n, l.length = n := ⟨_, rfl⟩
  obtain ⟨nm, hnm⟩ : ∃ nm, m.length = nm := ⟨_, rfl⟩
  obtain ⟨ao, cap, rfl⟩ := hu.shape' hn
  obtain ⟨bo, cbp, rfl⟩ := hv.shape' hnm
  rw [hn] at hl
  have H0 := ((Holds.start w).alloc (o := .cells #[.int .i64 s0, .int .i64 s1, .int .i64 s2, .int .i64 s3, .int .i64 s4, .int .i64 s5, .int .i64 s6, .int .i64 s7, .int .i64 s8, .slice ao n cap] 37)).alloc (o := .cells #[.int .i64 t0, .int .i64 t1, .int .i64 t2, .int .i64 t3, .int .i64 t4, .int .i64 t5, .int .i64 t6, .int .i64 t7, .int .i64 t8, .slice bo nm cbp] 37)
  have HA := ((H0.alloc (o := .cells #[.int .i64 s0, .int .i64 s1, .int .i64 s2, .int .i64 s3, .int .i64 s4, .int .i64 s5, .int .i64 s6, .int .i64 s7, .int .i64 s8, .slice ao n cap] 37)).alloc (o := .cells #[.int .i64 t0, .int .i64 t1, .int .i64 t2, .int .i64 t3, .int .i64 t4, .int .i64 t5, .int .i64 t6, .int .i64 t7, .int .i64 t8, .slice bo nm cbp] 37)).p1.drew
  have HB := ((H0.alloc (o := .cells #[.int .i64 t0, .int .i64 t1, .int .i64 t2, .int .i64 t3, .int .i64 t4, .int .i64 t5, .int .i64 t6, .int .i64 t7, .int .i64 t8, .slice bo nm cbp] 37)).alloc (o := .cells #[.int .i64 s0, .int .i64 s1, .int .i64 s2, .int .i64 s3, .int .i64 s4, .int .i64 s5, .int .i64 s6, .int .i64 s7, .int .i64 s8, .slice ao n cap] 37)).drew
  simp only [World.size_alloc] at H0 HA HB
  obtain ⟨a0, a1, a2, a3, a4, a5, a6, a7, a8, a9⟩ := ten_cells H0.p1
  obtain ⟨b0, b1, b2, b3, b4, b5, b6, b7, b8, b9⟩ := ten_cells H0
  have HA := hide HA
  have HB := hide HB
  have hu := hide hu
  have hv := hide hv
  have hn := hide hn
  have hnm := hide hnm
  have hd := hide hd
  clear H0
  unfold picCells
  dsimp only
  go_enter Tryd.func20, Tryd.ntmps20
  go_upto_region 1 with fail
  go_cut [5, 6] (fun x y wx => ∃ xb yb, x = .pointer (some ⟨xb, 0, none⟩) ∧ y = .pointer (some ⟨yb, 0, none⟩) ∧ Holds w wx [pts xb (.cells #[.int .i64 s0, .int .i64 s1, .int .i64 s2, .int .i64 s3, .int .i64 s4, .int .i64 s5, .int .i64 s6, .int .i64 s7, .int .i64 s8, .slice ao n cap] 37), pts yb (.cells #[.int .i64 t0, .int .i64 t1, .int .i64 t2, .int .i64 t3, .int .i64 t4, .int .i64 t5, .int .i64 t6, .int .i64 t7, .int .i64 t8, .slice bo nm cbp] 37), pts (w.heap.size + 1) (.cells #[.int .i64 t0, .int .i64 t1, .int .i64 t2, .int .i64 t3, .int .i64 t4, .int .i64 t5, .int .i64 t6, .int .i64 t7, .int .i64 t8, .slice bo nm cbp] 37), pts w.heap.size (.cells #[.int .i64 s0, .int .i64 s1, .int .i64 s2, .int .i64 s3, .int .i64 s4, .int .i64 s5, .int .i64 s6, .int .i64 s7, .int .i64 s8, .slice ao n cap] 37)])
  case first =>
    go_region_law (fail)
    all_goals
      go_wp2
      go_meet
      case rel => first | exact ⟨_, _, rfl, rfl, HA.out⟩ | exact ⟨_, _, rfl, rfl, HB.out⟩
  case rest =>
    obtain ⟨xb, yb, rfl, rfl, hc⟩ := hcut
    clear HA HB a0 a1 a2 a3 a4 a5 a6 a7 a8 a9 b0 b1 b2 b3 b4 b5 b6 b7 b8 b9
    obtain ⟨pb, hpb⟩ : ∃ pb, w.heap.size = pb := ⟨_, rfl⟩
    simp only [hpb] at hc ⊢
    obtain ⟨qb, hqb⟩ : ∃ qb, pb + 1 = qb := ⟨_, rfl⟩
    simp only [hqb] at hc ⊢
    have x9 := Holds.cell (off := 9) hc rfl
    have fx := Holds.free (off := 9) hc
    have H2 := (hc.setCell (off := 9) (v := .slice none 0 0)).p1
    have y9 := Holds.cell (off := 9) H2 rfl
    have fy := Holds.free (off := 9) H2
    have H3 := (H2.setCell (off := 9) (v := .slice none 0 0)).p1
    obtain ⟨a0, a1, a2, a3, a4, a5, a6, a7, a8, a9⟩ := ten_cells H3
    obtain ⟨b0, b1, b2, b3, b4, b5, b6, b7, b8, b9⟩ := ten_cells H3.p1
    have a9 := Holds.cell (off := 9) H3.p3 rfl
    have b9 := Holds.cell (off := 9) H3.p2 rfl
    have hk := hide H3.toKeep
    have H3 := hide H3
    clear hc H2
    by_cases e0 : s0 = t0
    · subst e0
      by_cases e1 : s1 = t1
      · subst e1
        by_cases e2 : s2 = t2
        · subst e2
          by_cases e3 : s3 = t3
          · subst e3
            by_cases e4 : s4 = t4
            · subst e4
              by_cases e5 : s5 = t5
              · subst e5
                by_cases e6 : s6 = t6
                · subst e6
                  by_cases e7 : s7 = t7
                  · subst e7
                    by_cases e8 : s8 = t8
                    · subst e8
                      by_cases e9 : n = nm
                      · subst e9
                        go_wp2
                        clear a0 a1 a2 a3 a4 a5 a6 a7 a8 b0 b1 b2 b3 b4 b5 b6 b7 b8 H3
                        generalize hW : (wc.setCell ⟨xb, 9, none⟩ (.slice none 0 0)).setCell ⟨yb, 9, none⟩ (.slice none 0 0) = W3 at a9 b9 hk ⊢
                        clear hW
                        go_loopw [7] (fun i wr => ∃ k : Nat, i = .int .i64 k ∧ k ≤ n ∧ Keep W3 wr ∧ Hide (∀ i, i < k → l[i]? = m[i]?)) (fun i _ => (n - intOf i).toNat)
                        case atStart => exact ⟨0, rfl, Nat.zero_le _, Keep.refl _, ⟨fun i hi => by omega⟩⟩
                        case round =>
                          obtain ⟨k, rfl, hkn, hh, hR⟩ := hrel
                          have a9 := hh.cell a9
                          have b9 := hh.cell b9
                          by_cases hlt : k < n
                          · have hlt' : (k : Int) < n := by omega
                            obtain ⟨x, hx⟩ : ∃ x, l[k]? = some x := ⟨_, List.getElem?_eq_getElem (by have := hn.out; omega)⟩
                            obtain ⟨y, hy⟩ : ∃ y, m[k]? = some y := ⟨_, List.getElem?_eq_getElem (by have := hnm.out; omega)⟩
                            obtain ⟨bb, off, rfl, q0, q1, q2⟩ := (hu.out.keep (hk.out.trans hh)).get k hx
                            obtain ⟨bb', off', rfl, r0, r1, r2⟩ := (hv.out.keep (hk.out.trans hh)).get k hy
                            have hh := hide hh
                            by_cases hxy : x = y
                            · have hR' : Hide (∀ i, i < k + 1 → l[i]? = m[i]?) := ⟨fun i hi => by
                                by_cases hik : i < k
                                · exact hR.out i hik
                                · obtain rfl : i = k := by omega
                                  rw [hx, hy, hxy]⟩
                              subst hxy
                              clear hx hy
                              go_wp2
                              go_quiet (fail)
                              go_wp2
                              go_roundw
                              case rel => exact ⟨k + 1, by go_num, hlt, hh.out.drewN, hR'⟩
                              case measure => (simp [intOf] <;> omega)
                            · have hdf : Hide (false = d) := ⟨by
                                cases hd' : d
                                · rfl
                                · have := congrArg (fun z : Pic => z.items[k]?) (hd.out.2 hd')
                                  dsimp only at this
                                  rw [hx, hy] at this
                                  exact absurd (Option.some.inj this) hxy⟩
                              have hcs := it_cases x y hxy
                              obtain ⟨xk, xv, xd⟩ := x
                              obtain ⟨yk, yv, yd⟩ := y
                              dsimp only at q0 q1 q2 r0 r1 r2 hcs
                              clear hx hy hxy
                              rcases hcs with h | ⟨rfl, h⟩ | ⟨rfl, rfl, h⟩
                              · have e := bytes_ne h
                                clear h
                                go_wp2
                                go_quiet (fail)
                                go_wp2
                                go_ret
                                exact ⟨ret_b hdf.out, hk.out.trans hh.out.drewN⟩
                              · have e := bytes_ne h
                                clear h
                                go_wp2
                                go_quiet (fail)
                                go_wp2
                                go_ret
                                exact ⟨ret_b hdf.out, hk.out.trans hh.out.drewN⟩
                              · have e := beq_ff h
                                clear h
                                go_wp2
                                go_quiet (fail)
                                go_wp2
                                go_ret
                                exact ⟨ret_b hdf.out, hk.out.trans hh.out.drewN⟩
                          · obtain rfl : n = k := by omega
                            have hdt : Hide (true = d) := ⟨by
                              have hlm : l = m := by
                                refine List.ext_getElem? fun i => ?_
                                by_cases hi : i < n
                                · exact hR.out i hi
                                · rw [List.getElem?_eq_none (by have := hn.out; omega), List.getElem?_eq_none (by have := hnm.out; omega)]
                              subst hlm
                              exact (hd.out.1 rfl).symm⟩
                            have hh := hide hh
                            go_wp2
                            go_ret
                            exact ⟨ret_b hdt.out, hk.out.trans hh.out⟩
                      · have hdf : Hide (false = d) := ⟨by cases hd' : d; rfl; exact absurd (congrArg (fun z : Pic => z.items.length) (hd.out.2 hd')) (by dsimp only; rw [hn.out, hnm.out]; exact e9)⟩
                        have e := beq_ff (a := (n : Int)) (b := (nm : Int)) (by omega)
                        go_wp2
                        go_ret
                        exact ⟨ret_b hdf.out, hk.out⟩
                    · (have hdf : Hide (false = d) := ⟨(by cases hd' : d; rfl; exact absurd (congrArg (fun z : Pic => z.now) (hd.out.2 hd')) e8)⟩; have e := beq_ff e8; go_wp2; go_ret; exact ⟨ret_b hdf.out, hk.out⟩)
                  · (have hdf : Hide (false = d) := ⟨(by cases hd' : d; rfl; exact absurd (congrArg (fun z : Pic => z.kind) (hd.out.2 hd')) e7)⟩; have e := beq_ff e7; go_wp2; go_ret; exact ⟨ret_b hdf.out, hk.out⟩)
                · (have hdf : Hide (false = d) := ⟨(by cases hd' : d; rfl; exact absurd (congrArg (fun z : Pic => z.c.pin) (hd.out.2 hd')) e6)⟩; have e := beq_ff e6; go_wp2; go_ret; exact ⟨ret_b hdf.out, hk.out⟩)
              · (have hdf : Hide (false = d) := ⟨(by cases hd' : d; rfl; exact absurd (congrArg (fun z : Pic => z.c.quota) (hd.out.2 hd')) e5)⟩; have e := beq_ff e5; go_wp2; go_ret; exact ⟨ret_b hdf.out, hk.out⟩)
            · (have hdf : Hide (false = d) := ⟨(by cases hd' : d; rfl; exact absurd (congrArg (fun z : Pic => z.c.hold) (hd.out.2 hd')) e4)⟩; have e := beq_ff e4; go_wp2; go_ret; exact ⟨ret_b hdf.out, hk.out⟩)
          · (have hdf : Hide (false = d) := ⟨(by cases hd' : d; rfl; exact absurd (congrArg (fun z : Pic => z.c.margin) (hd.out.2 hd')) e3)⟩; have e := beq_ff e3; go_wp2; go_ret; exact ⟨ret_b hdf.out, hk.out⟩)
        · (have hdf : Hide (false = d) := ⟨(by cases hd' : d; rfl; exact absurd (congrArg (fun z : Pic => z.c.window) (hd.out.2 hd')) e2)⟩; have e := beq_ff e2; go_wp2; go_ret; exact ⟨ret_b hdf.out, hk.out⟩)
      · (have hdf : Hide (false = d) := ⟨(by cases hd' : d; rfl; exact absurd (congrArg (fun z : Pic => z.c.shift) (hd.out.2 hd')) e1)⟩; have e := beq_ff e1; go_wp2; go_ret; exact ⟨ret_b hdf.out, hk.out⟩)
    · (have hdf : Hide (false = d) := ⟨(by cases hd' : d; rfl; exact absurd (congrArg (fun z : Pic => z.c.size) (hd.out.2 hd')) e0)⟩; have e := beq_ff e0; go_wp2; go_ret; exact ⟨ret_b hdf.out, hk.out⟩)
end Go.Proofs.YtggeppmiifkikaaDoor
