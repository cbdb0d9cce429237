/- A heap of keys: settle. -/
import Derived.Test.YtbbdimlpofjlfaaGreatDoorQHp1
import Derived.Deep.DeepCutAuto
import Derived.BigQuiet
import Derived.OwnWalk
namespace Go.Proofs.YtbbdimlpofjlfaaGreatDoor
open Go Go.RowKit

theorem hSt_len {es : List HE} {i : Nat} {x : HE} {m : Assoc} {base : List HE} (h : HSt es i x m base) : es.length = base.length := by
  have := h.perm.length_eq
  rwa [List.length_set] at this
theorem child_right {es : List HE} {n j c e : Nat} {y z : HE} (hn : es.length = n) (hc : 2 * j + 1 = c) (he : c + 1 = e) (hen : e < n) (hy : hG es e = y) (hz : hG es c = z) (h : hLt y z) : Child es j e :=
  ⟨by omega, by omega, by omega, fun d h0 hdl hpar => by
    obtain rfl | rfl : d = c ∨ d = e := by omega
    · rw [hy, hz]; exact hLt_asymm h
    · exact hLt_irrefl _⟩
theorem child_left {es : List HE} {n j c e : Nat} {y z : HE} (hn : es.length = n) (hc : 2 * j + 1 = c) (he : c + 1 = e) (hen : e < n) (hy : hG es e = y) (hz : hG es c = z) (h : ¬ hLt y z) : Child es j c :=
  ⟨by omega, by omega, by omega, fun d h0 hdl hpar => by
    obtain rfl | rfl : d = c ∨ d = e := by omega
    · exact hLt_irrefl _
    · rw [hy, hz]; exact h⟩
theorem child_one {es : List HE} {n j c : Nat} (hn : es.length = n) (hc : 2 * j + 1 = c) (hcn : c < n) (hen : ¬ c + 1 < n) : Child es j c :=
  ⟨by omega, by omega, by omega, fun d h0 hdl hpar => by
    obtain rfl : d = c := by omega
    exact hLt_irrefl _⟩
set_option maxRecDepth 100000 in
set_option maxHeartbeats 4000000 in
theorem Hp_settle {g w : World} {b mb : Nat} {vl : Value} {came : Int} {es : List HE} {m : Assoc} {srt : List HE} {F : List SProp} {i : Nat} {x : HE} (h : Holds g w (HpRaw b vl mb came es m F)) (hS : HSt es i x m srt) (hx : hG es i = x) (hl : es.length ≤ 1000000)
    (hso : HSorted srt) (hcm : ∀ x ∈ srt, x.came ≤ came) :
    Calls Tryz.prog 228 #[.pointer (some ⟨b, 0, none⟩), .int .i64 i] w fun r w' => r = .returned (.tuple #[]) ∧ Holds g w' (IsHeap b srt came :: F) := by
  obtain ⟨n, hn⟩ : ∃ n, es.length = n := ⟨_, rfl⟩
  have hil : i < n := by rw [← hn]; exact hS.hole.lt
  unfold HpRaw at h
  rcases h.p1.rowShape with ⟨_, h0, _⟩ | ⟨q, cap, hv⟩
  · omega
  subst hv
  have hsl : srt.length = n := by rw [← hn]; exact (hSt_len hS).symm
  have hg := heCells_get es i (by omega)
  rw [hx] at hg
  rw [hn] at h hl
  have HA := (((h.alloc (o := .cells #[.pointer (some ⟨b, 0, none⟩)] 245)).alloc (o := .cells #[.int .i64 (i : Nat)] 3)))
  simp only [World.size_alloc] at HA
  obtain ⟨hb, hhb⟩ : ∃ hb, w.heap.size = hb := ⟨_, rfl⟩
  obtain ⟨ib, hib⟩ : ∃ ib, hb + 1 = ib := ⟨_, rfl⟩
  obtain ⟨xb, hxb⟩ : ∃ xb, ib + 1 = xb := ⟨_, rfl⟩
  rw [hhb, hib] at HA
  obtain ⟨W1, hW1⟩ : ∃ W1, (w.alloc (.cells #[.pointer (some ⟨b, 0, none⟩)] 245)).alloc (.cells #[.int .i64 (i : Nat)] 3) = W1 := ⟨_, rfl⟩
  have hWs : W1.heap.size = xb := by rw [← hW1]; simp only [World.size_alloc]; omega
  rw [hW1] at HA
  have hS := hide hS
  have hsl := hide hsl
  have hso := hide hso
  have hcm := hide hcm
  have hn' := hide hn
  have HA := hide HA
  clear h hn hx
  go_enter Tryz.func228, Tryz.ntmps228
  go_upto_region 1 with fail
  try simp only [hhb, hib]
  try rw [hW1]
  have c0 : W1.cell? ⟨hb, 0, none⟩ = some (.pointer (some ⟨b, 0, none⟩)) := HA.out.p1.cell rfl
  have c1 : W1.cell? ⟨ib, 0, none⟩ = some (.int .i64 i) := HA.out.cell rfl
  have c2 : W1.cell? ⟨b, 0, none⟩ = some (.slice (some ⟨q, 0, none⟩) n cap) := HA.out.p2.cell rfl
  have y0 := HA.out.p3.rowCell hg.1
  have y1 := HA.out.p3.rowCell hg.2.1
  have y2 := HA.out.p3.rowCell hg.2.2.1
  have y3 := HA.out.p3.rowCell hg.2.2.2
  have hin : (i : Int) < n := by omega
  have HB := ((HA.out.alloc (o := .cells #[.string x.key, .int .i64 x.one, .int .i64 x.two, .int .i64 x.came] 326)).drew)
  rw [hWs] at HB
  have HB := hide HB
  go_region_held3 (fun w' => w'.cell? ⟨hb, 0, none⟩ = some (.pointer (some ⟨b, 0, none⟩)) ∧ w'.cell? ⟨ib, 0, none⟩ = some (.int .i64 i) ∧ w'.cell? ⟨b, 0, none⟩ = some (.slice (some ⟨q, 0, none⟩) n cap) ∧ w'.cell? ⟨q, i * 4, none⟩ = some (.string x.key) ∧ w'.cell? ⟨q, i * 4 + 1, none⟩ = some (.int .i64 x.one) ∧ w'.cell? ⟨q, i * 4 + 2, none⟩ = some (.int .i64 x.two) ∧ w'.cell? ⟨q, i * 4 + 3, none⟩ = some (.int .i64 x.came)) (go_keep) (fail)
  have HC : Holds g (W1.alloc (.cells #[.string x.key, .int .i64 x.one, .int .i64 x.two, .int .i64 x.came] 326)).drew (HpSt ib xb hb i x b (.slice (some ⟨q, 0, none⟩) n cap) mb came es m F) := by
    unfold HpSt HpRaw
    rw [hn'.out]
    exact HB.out.p1
  generalize (W1.alloc (.cells #[.string x.key, .int .i64 x.one, .int .i64 x.two, .int .i64 x.came] 326)).drew = W2 at HC ⊢
  have HC := hide HC
  clear HA HB c0 c1 c2 y0 y1 y2 y3 hin hW1 hWs hhb hib hxb hg
  go_wp2
  go_loopg [15] (i) (fun k _ wr => ∃ j es m, Hide (j = k) ∧ Hide (HSt es j x m srt) ∧ Hide (es.length = n) ∧ Holds g wr (HpSt ib xb hb j x b (.slice (some ⟨q, 0, none⟩) n cap) mb came es m F))
  case atStart => exact ⟨i, es, m, ⟨rfl⟩, hS, hn', HC.out⟩
  case round =>
    clear HC hn' hS hil
    obtain ⟨j, es, m, hjk, hS, hn, hh⟩ := hrel
    have hjn : j < n := by rw [← hn.out]; exact hS.out.hole.lt
    obtain ⟨d, hd⟩ : ∃ d, decide (0 < j ∧ hLt x (hG es ((j - 1) / 2))) = d := ⟨_, rfl⟩
    have cU := hide (Hp_up hn.out hh hjn hl d hd)
    have hd := hide hd
    have hh := hide hh
    cases d with
    | true =>
      obtain ⟨hj0, hlt⟩ := of_decide_eq_true hd.out
      have hlt := hide hlt
      obtain ⟨p, hp⟩ : ∃ p, (j - 1) / 2 = p := ⟨_, rfl⟩
      obtain ⟨y, hy⟩ : ∃ y, hG es p = y := ⟨_, rfl⟩
      have hy := hide hy
      have hpn : p < n := by omega
      have i0 : (0 : Int) < j := by omega
      have f1 : IntKind.i64.wrap ((j : Int) - 1) = (j : Int) - 1 := IntWalk.i64_in _ (by omega)
      have f2 : ((j : Int) - 1) / 2 = (p : Int) := by omega
      have f3 : ((j : Int) - 1).tdiv 2 = (p : Int) := by rw [Int.tdiv_eq_ediv_of_nonneg (by omega)]; exact f2
      have f4 : IntKind.i64.wrap (p : Int) = (p : Int) := IntWalk.i64_in _ (by omega)
      have hpn' : (p : Int) < n := by omega
      have hp := hide hp
      go_wp2_with (go_at_call 250; (with_reducible refine cU.out.mono ?_); rintro r w1 ⟨rfl, k1⟩; replace hh := hide (hh.out.keep k1); clear k1 cU)
      have st := hide (hp_S hn.out hpn hy.out hh.out)
      have cP := hide (fun (w' : World) (h : Holds g w' (HpSt ib xb hb j x b (.slice (some ⟨q, 0, none⟩) n cap) mb came es m F)) => Hp_putIn hn.out h hjn y)
      unfold heV at cP
      have hy2 : Hide (hG (es.set j y) p = y) := ⟨by rw [hG_set _ _ _ _ (by rw [hn.out]; exact hjn), if_neg (by have := hp.out; omega)]; exact hy.out⟩
      have H1 := hh
      have S0 := hide (hp_S hn.out hpn hy.out H1.out.drew)
      replace H1 := hide H1.out.drew
      go_region_held3 (fun w' => w'.cell? ⟨ib, 0, none⟩ = some (.int .i64 (j : Nat)) ∧ w'.cell? ⟨hb, 0, none⟩ = some (.pointer (some ⟨b, 0, none⟩)) ∧ w'.cell? ⟨b, 0, none⟩ = some (.slice (some ⟨q, 0, none⟩) n cap) ∧ w'.cell? ⟨xb, 0, none⟩ = some (.string x.key) ∧ w'.cell? ⟨xb, 1, none⟩ = some (.int .i64 x.one) ∧ w'.cell? ⟨xb, 2, none⟩ = some (.int .i64 x.two) ∧ w'.cell? ⟨xb, 3, none⟩ = some (.int .i64 x.came) ∧ w'.cell? ⟨q, p * 4, none⟩ = some (.string y.key) ∧ w'.cell? ⟨q, p * 4 + 1, none⟩ = some (.int .i64 y.one) ∧ w'.cell? ⟨q, p * 4 + 2, none⟩ = some (.int .i64 y.two) ∧ w'.cell? ⟨q, p * 4 + 3, none⟩ = some (.int .i64 y.came)) (first | exact S0.out | exact S2.out) ((go_at_call 227; (with_reducible refine (cP.out _ H1.out).mono ?_); rintro r w2 ⟨rfl, h2⟩; have h2 := hide h2; have S2 := hide (hp_S (p := p) (y := y) (by rw [List.length_set]; exact hn.out) hpn hy2.out h2.out)))
      all_goals
        have H3 := h2.out
        unfold HpSt at H3
        have e0 : w2.cell? ⟨ib, 0, none⟩ = some (.int .i64 (j : Nat)) := H3.cell rfl
        have e1 : w2.frozen? ⟨ib, 0, none⟩ = false := H3.free
        have H4 := hide (H3.setCell (off := 0) (v := .int .i64 (p : Int)))
        clear H3 st S0 S2 cP H1 h2 hh
        go_wp2
        go_roundg p
        case measure => have := hjk.out; have := hp.out; omega
        case rel =>
          have hS2 := hS.out.up hj0
          rw [hp.out, hy.out] at hS2
          refine ⟨p, es.set j y, _, ⟨rfl⟩, ⟨hS2⟩, ⟨by rw [List.length_set]; exact hn.out⟩, ?_⟩
          unfold HpSt
          exact H4.out
    | false =>
      have hup : Hide (j = 0 ∨ ¬ hLt x (hG es ((j - 1) / 2))) := ⟨by
        have := of_decide_eq_false hd.out
        by_cases h0 : j = 0
        · exact .inl h0
        · exact .inr fun hc => this ⟨by omega, hc⟩⟩
      obtain ⟨c, hc⟩ : ∃ c, 2 * j + 1 = c := ⟨_, rfl⟩
      have f1 : IntKind.i64.wrap (2 * (j : Int)) = 2 * (j : Int) := IntWalk.i64_in _ (by omega)
      have f2 : IntKind.i64.wrap (2 * (j : Int) + 1) = (c : Int) := by rw [IntWalk.i64_in _ (by omega)]; omega
      have hc := hide hc
      clear hd
      go_wp2_with (go_at_call 250; (with_reducible refine cU.out.mono ?_); rintro r w1 ⟨rfl, k1⟩; replace hh := hide (hh.out.keep k1); clear k1 cU; have c1 : w1.cell? ⟨ib, 0, none⟩ = some (.int .i64 (j : Nat)) := (hp_facts hn.out hh.out).1.1)
      go_loopg [6] (n - j) (fun k v wr => ∃ j c es m, Hide (n - j = k) ∧ Hide (2 * j + 1 = c) ∧ v = .int .i64 (c : Nat) ∧ Hide (HSt es j x m srt) ∧ Hide (es.length = n) ∧ Hide (j = 0 ∨ ¬ hLt x (hG es ((j - 1) / 2))) ∧ Holds g wr (HpSt ib xb hb j x b (.slice (some ⟨q, 0, none⟩) n cap) mb came es m F))
      case atStart => exact ⟨j, c, es, m, ⟨rfl⟩, hc, rfl, hS, hn, hup, hh.out⟩
      case round =>
        clear c1 hh hn hS hup hc f1 f2 hjn hjk
        obtain ⟨j, c, es, m, hjk, hc, rfl, hS, hn, hup, hh⟩ := hrel
        have hjn : j < n := by rw [← hn.out]; exact hS.out.hole.lt
        obtain ⟨⟨c0, c1, c2⟩, ⟨x0, x1, x2, x3⟩, hcells⟩ := hp_facts hn.out hh
        have hcells := hide hcells
        have hh := hide hh
        have cP := hide (Hp_putIn hn.out hh.out hjn x)
        unfold heV at cP
        have kq := hide (Keep.refl wr).drew
        by_cases hcn : (c : Int) < n
        · obtain ⟨e, he⟩ : ∃ e, c + 1 = e := ⟨_, rfl⟩
          have f1 : IntKind.i64.wrap ((c : Int) + 1) = (e : Int) := by rw [IntWalk.i64_in _ (by omega)]; omega
          have he := hide he
          obtain ⟨z, hz⟩ : ∃ z, hG es c = z := ⟨_, rfl⟩
          have zc := hcells.out c (by omega)
          rw [hz] at zc
          obtain ⟨z0, z1, z2, z3⟩ := zc
          have hz := hide hz
          go_upto_region 9 with fail
          go_cut [70] (fun v wx => ∃ d, v = .bool d ∧ Hide (d = true → Child es j e) ∧ Hide (d = false → Child es j c) ∧ Keep wr wx)
          case first =>
            by_cases hen : (e : Int) < n
            · obtain ⟨y, hy⟩ : ∃ y, hG es e = y := ⟨_, rfl⟩
              have yc := hcells.out e (by omega)
              rw [hy] at yc
              obtain ⟨y0, y1, y2, y3⟩ := yc
              have hy := hide hy
              obtain ⟨d, hd⟩ : ∃ d, decide (hLt y z) = d := ⟨_, rfl⟩
              have cA := hide (fun w => Hp_ahead y z d hd w)
              unfold heV at cA
              have hd := hide hd
              have st := hide (fun w' (k : Keep wr w') => And.intro (k.cell c1) (And.intro (k.cell c2) (And.intro (k.cell z0) (And.intro (k.cell z1) (And.intro (k.cell z2) (And.intro (k.cell z3) (And.intro (k.cell y0) (And.intro (k.cell y1) (And.intro (k.cell y2) (k.cell y3))))))))))
              go_region_held3 (fun w' => w'.cell? ⟨hb, 0, none⟩ = some (.pointer (some ⟨b, 0, none⟩)) ∧ w'.cell? ⟨b, 0, none⟩ = some (.slice (some ⟨q, 0, none⟩) n cap) ∧ w'.cell? ⟨q, c * 4, none⟩ = some (.string z.key) ∧ w'.cell? ⟨q, c * 4 + 1, none⟩ = some (.int .i64 z.one) ∧ w'.cell? ⟨q, c * 4 + 2, none⟩ = some (.int .i64 z.two) ∧ w'.cell? ⟨q, c * 4 + 3, none⟩ = some (.int .i64 z.came) ∧ w'.cell? ⟨q, e * 4, none⟩ = some (.string y.key) ∧ w'.cell? ⟨q, e * 4 + 1, none⟩ = some (.int .i64 y.one) ∧ w'.cell? ⟨q, e * 4 + 2, none⟩ = some (.int .i64 y.two) ∧ w'.cell? ⟨q, e * 4 + 3, none⟩ = some (.int .i64 y.came)) (exact st.out _ kq.out)
                ((go_at_call 232; (with_reducible refine (cA.out _).mono ?_); rintro r wn ⟨rfl, h⟩; replace kq := hide (kq.out.trans h); clear h))
              all_goals
                go_wp2
                go_meet
                case rel => exact ⟨d, by first | rfl | simp, ⟨fun hh => child_right hn.out hc.out he.out (by omega) hy.out hz.out (of_decide_eq_true (hd.out.trans hh))⟩, ⟨fun hh => child_left hn.out hc.out he.out (by omega) hy.out hz.out (of_decide_eq_false (hd.out.trans hh))⟩, kq.out⟩
            · go_quiet (fail)
              all_goals
                go_wp2
                go_meet
                case rel => exact ⟨false, by first | rfl | simp, ⟨fun h => (by cases h)⟩, ⟨fun _ => child_one hn.out hc.out (by omega) (by have := he.out; omega)⟩, (Keep.refl wr).drewN⟩
          case rest =>
            obtain ⟨d, rfl, hch1, hch2, hkk⟩ := hcut
            have hkk := hide hkk
            go_upto_if 70 with fail
            go_cut [6] (fun v wx => ∃ k, v = .int .i64 (k : Nat) ∧ Hide (Child es j k) ∧ Hide (Keep wr wx))
            case first =>
              cases d with
              | true =>
                go_wp2
                go_meet
                case rel => exact ⟨e, rfl, ⟨hch1.out trivial⟩, hkk⟩
              | false =>
                go_wp2
                go_meet
                case rel => exact ⟨c, rfl, ⟨hch2.out trivial⟩, hkk⟩
            case rest =>
              clear hkk
              obtain ⟨k, rfl, hch, hkk⟩ := hcut
              have hkn : k < n := by have := hch.out.lt; rw [hn.out] at this; exact this
              replace hh := hide (hh.out.keep hkk.out)
              clear c0 c1 c2 x0 x1 x2 x3 z0 z1 z2 z3 kq cP hcells
              obtain ⟨y, hy⟩ : ∃ y, hG es k = y := ⟨_, rfl⟩
              have hy := hide hy
              obtain ⟨d, hd⟩ : ∃ d, decide (hLt y x) = d := ⟨_, rfl⟩
              have cA := hide (fun w => Hp_ahead y x d hd w)
              unfold heV at cA
              have hd := hide hd
              have hkn' : (k : Int) < n := by omega
              have H1 := hide hh.out.drew
              have cP := hide (fun (w' : World) (h : Holds g w' (HpSt ib xb hb j x b (.slice (some ⟨q, 0, none⟩) n cap) mb came es m F)) => Hp_putIn hn.out h hjn y)
              have cP' := hide (fun (w' : World) (h : Holds g w' (HpSt ib xb hb j x b (.slice (some ⟨q, 0, none⟩) n cap) mb came es m F)) => Hp_putIn hn.out h hjn x)
              unfold heV at cP cP'
              have hkj : Hide (k ≠ j) := ⟨by have := hch.out.par; have := hch.out.pos; omega⟩
              have hy2 : Hide (hG (es.set j y) k = y) := ⟨by rw [hG_set _ _ _ _ (by rw [hn.out]; exact hjn), if_neg (Ne.symm hkj.out)]; exact hy.out⟩
              have S0 := hide (hp_S hn.out hkn hy.out H1.out)
              go_wp2
              go_region_held3 (fun w' => w'.cell? ⟨ib, 0, none⟩ = some (.int .i64 (j : Nat)) ∧ w'.cell? ⟨hb, 0, none⟩ = some (.pointer (some ⟨b, 0, none⟩)) ∧ w'.cell? ⟨b, 0, none⟩ = some (.slice (some ⟨q, 0, none⟩) n cap) ∧ w'.cell? ⟨xb, 0, none⟩ = some (.string x.key) ∧ w'.cell? ⟨xb, 1, none⟩ = some (.int .i64 x.one) ∧ w'.cell? ⟨xb, 2, none⟩ = some (.int .i64 x.two) ∧ w'.cell? ⟨xb, 3, none⟩ = some (.int .i64 x.came) ∧ w'.cell? ⟨q, k * 4, none⟩ = some (.string y.key) ∧ w'.cell? ⟨q, k * 4 + 1, none⟩ = some (.int .i64 y.one) ∧ w'.cell? ⟨q, k * 4 + 2, none⟩ = some (.int .i64 y.two) ∧ w'.cell? ⟨q, k * 4 + 3, none⟩ = some (.int .i64 y.came)) (first | exact S0.out | exact S1.out)
                ((go_at_call 232; (with_reducible refine (cA.out _).mono ?_); rintro r wn ⟨rfl, h⟩; have H2 := hide (H1.out.keep h); have S1 := hide (hp_S hn.out hkn hy.out H2.out); clear h))
              all_goals
                cases d with
                | true =>
                  clear cA cP' S0 S1
                  have S1 := hide (hp_S hn.out hkn hy.out H2.out.drew)
                  replace H2 := hide H2.out.drew
                  go_wp2
                  go_region_held3 (fun w' => w'.cell? ⟨ib, 0, none⟩ = some (.int .i64 (j : Nat)) ∧ w'.cell? ⟨hb, 0, none⟩ = some (.pointer (some ⟨b, 0, none⟩)) ∧ w'.cell? ⟨b, 0, none⟩ = some (.slice (some ⟨q, 0, none⟩) n cap) ∧ w'.cell? ⟨xb, 0, none⟩ = some (.string x.key) ∧ w'.cell? ⟨xb, 1, none⟩ = some (.int .i64 x.one) ∧ w'.cell? ⟨xb, 2, none⟩ = some (.int .i64 x.two) ∧ w'.cell? ⟨xb, 3, none⟩ = some (.int .i64 x.came) ∧ w'.cell? ⟨q, k * 4, none⟩ = some (.string y.key) ∧ w'.cell? ⟨q, k * 4 + 1, none⟩ = some (.int .i64 y.one) ∧ w'.cell? ⟨q, k * 4 + 2, none⟩ = some (.int .i64 y.two) ∧ w'.cell? ⟨q, k * 4 + 3, none⟩ = some (.int .i64 y.came)) (first | exact S1.out | exact S2.out) ((go_at_call 227; (with_reducible refine (cP.out _ H2.out).mono ?_); rintro r w3 ⟨rfl, h2⟩; have h2 := hide h2; have S2 := hide (hp_S (p := k) (y := y) (by rw [List.length_set]; exact hn.out) hkn hy2.out h2.out)))
                  all_goals
                    have H3 := h2.out
                    unfold HpSt at H3
                    have e0 : w3.cell? ⟨ib, 0, none⟩ = some (.int .i64 (j : Nat)) := H3.cell rfl
                    have e1 : w3.frozen? ⟨ib, 0, none⟩ = false := H3.free
                    have H4 := hide (H3.setCell (off := 0) (v := .int .i64 (k : Int)))
                    have e2 : (w3.setCell ⟨ib, 0, none⟩ (.int .i64 (k : Int))).cell? ⟨ib, 0, none⟩ = some (.int .i64 (k : Int)) := H4.out.cell rfl
                    obtain ⟨l, hl⟩ : ∃ l, 2 * k + 1 = l := ⟨_, rfl⟩
                    have f1 : IntKind.i64.wrap (2 * (k : Int)) = 2 * (k : Int) := IntWalk.i64_in _ (by omega)
                    have f2 : IntKind.i64.wrap (2 * (k : Int) + 1) = (l : Int) := by rw [IntWalk.i64_in _ (by omega)]; omega
                    have hl := hide hl
                    clear H3 S1 S2 cP H1 h2 hh H2
                    go_wp2
                    go_roundg (n - k)
                    case measure => have := hjk.out; have := hch.out.par; have := hch.out.pos; omega
                    case rel =>
                      have hS2 := hS.out.down hch.out
                      have hup2 : ¬ hLt x y := hLt_asymm (of_decide_eq_true hd.out)
                      rw [hy.out] at hS2
                      refine ⟨k, l, es.set j y, _, ⟨rfl⟩, hl, rfl, ⟨hS2⟩, ⟨by rw [List.length_set]; exact hn.out⟩, ⟨.inr ?_⟩, ?_⟩
                      · rw [hch.out.par, hG_set _ _ _ _ (by rw [hn.out]; exact hjn), if_pos rfl]
                        exact hup2
                      · unfold HpSt
                        exact H4.out
                | false =>
                  obtain ⟨⟨c0, c1, c2⟩, ⟨x0, x1, x2, x3⟩, _⟩ := hp_facts hn.out H2.out
                  have cP2 := hide (cP'.out _ H2.out)
                  clear cA cP' cP S0 S1
                  go_wp2_with (go_at_call 227; (with_reducible refine cP2.out.mono ?_); rintro r w2 ⟨rfl, h2⟩)
                  go_end0
                  refine ⟨rfl, ?_⟩
                  have h3 := h2
                  unfold HpSt at h3
                  refine (h3.drop.drop.drop).toHeap (hS.out.fill hso.out hcm.out hup.out fun d h0 hdl hpar => ?_) (by rw [List.length_set, hn.out]; exact hl)
                  have h4 := hch.out.least d h0 hdl hpar
                  rw [hy.out] at h4
                  exact hGe_trans (of_decide_eq_false hd.out) h4
        · go_wp2_with (go_at_call 227; (with_reducible refine cP.out.mono ?_); rintro r w2 ⟨rfl, h2⟩)
          go_end0
          refine ⟨rfl, ?_⟩
          have h3 := h2
          unfold HpSt at h3
          exact (h3.drop.drop.drop).toHeap (hS.out.fill hso.out hcm.out hup.out fun d h0 hdl hpar => absurd hdl (by have := hn.out; have := hc.out; omega)) (by rw [List.length_set, hn.out]; exact hl)
end Go.Proofs.YtbbdimlpofjlfaaGreatDoor
/- A heap of keys: Set, Rank, Least. -/
namespace Go.Proofs.YtbbdimlpofjlfaaGreatDoor
open Go Go.RowKit

theorem infoHItem : (Tryz.prog.info? 326).map (fun i => (i.zero, i.size, i.bytes)) = some (some (.agg #[.string ⟨#[]⟩, .int .i64 0, .int .i64 0, .int .i64 0]), 4, 40) := by kernel_rfl
/-- What Set holds. -/
def HpSet (rb b : Nat) (one two : Int) (vl : Value) (mb : Nat) (came : Int) (es : List HE) (m : Assoc) (F : List SProp) : List SProp :=
  pts rb (.cells #[.int .i64 one, .int .i64 two] 251) :: HpRaw b vl mb came es m F
set_option maxRecDepth 100000 in
set_option maxHeartbeats 2000000 in
theorem Hp_Set_old {g w : World} {b : Nat} {srt : List HE} {came : Int} {F : List SProp} (h : Holds g w (IsHeap b srt came :: F)) (k : ByteArray) (one two : Int) (hc0 : 0 ≤ came) (hc : came < 1000000000000000) (hk : k ∈ srt.map (·.key)) :
    Calls Tryz.prog 226 #[.pointer (some ⟨b, 0, none⟩), .string k, .agg #[.int .i64 one, .int .i64 two]] w fun r w' => r = .returned (.tuple #[]) ∧ Holds g w' (IsHeap b (hSet srt came k one two) (came + 1) :: F) := by
  obtain ⟨es, m, vl, mb, hok, hle, h⟩ := h.isHeap
  obtain ⟨i, hi, hik, hget, _⟩ := hok.find hk
  have hhas := (hok.has k).2 hk
  obtain ⟨n, hn⟩ : ∃ n, es.length = n := ⟨_, rfl⟩
  obtain ⟨rb, hrb⟩ : ∃ rb, w.heap.size = rb := ⟨_, rfl⟩
  have HA := h.alloc (o := .cells #[.int .i64 one, .int .i64 two] 251)
  rw [hrb] at HA
  have hst := hide (hok.setOld one two hi hik)
  obtain ⟨srt2, hsrt2⟩ : ∃ s, hSet srt came k one two = s := ⟨_, rfl⟩
  have hso : Hide (HSorted srt2) := ⟨hsrt2 ▸ hSet_sorted hok.sorted hok.cames⟩
  have hcm : Hide (∀ x ∈ srt2, x.came ≤ came + 1) := ⟨hsrt2 ▸ hSet_cames hok.cames⟩
  rw [hsrt2] at hst
  rw [hsrt2]
  clear hok hk hik hsrt2 h
  have HA := hide HA
  go_enter Tryz.func226, Tryz.ntmps226
  go_upto_region 1 with fail
  try simp only [hrb]
  generalize w.alloc (.cells #[.int .i64 one, .int .i64 two] 251) = W1 at HA ⊢
  clear hrb
  have HB := HA.out
  unfold HpRaw at HB
  have lk := HB.p3.lookupOk (t := 148) Tryz.underlying148 Tryz.underlying9 zeroInt k
  rw [hhas, hget, Option.getD_some] at lk
  have c1 : W1.cell? ⟨b, 1, none⟩ = some (.map (some mb)) := HB.p1.cell rfl
  have HB := hide HB
  have hi' : Hide (i < es.length) := ⟨hi⟩
  clear hhas hget HA
  have c2 : W1.cell? ⟨b, 2, none⟩ = some (.int .i64 came) := HB.out.p1.cell rfl
  have c2f : W1.frozen? ⟨b, 2, none⟩ = false := HB.out.p1.free
  have e1 : IntKind.i64.wrap (came + 1) = came + 1 := IntWalk.i64_in _ (by omega)
  have HC := (HB.out.p1.setCell (off := 2) (v := .int .i64 (came + 1))).p1
  have HC : Hide (Holds g (W1.setCell ⟨b, 2, none⟩ (.int .i64 (came + 1))) (HpRaw b vl mb (came + 1) es m (pts rb (.cells #[.int .i64 one, .int .i64 two] 251) :: F))) := ⟨HC.p3.p3.p3⟩
  go_upto_region 6 with fail
  generalize W1.setCell ⟨b, 2, none⟩ (.int .i64 (came + 1)) = W2 at HC ⊢
  clear HB c1 c2 c2f lk
  have st := hide (fun (w' : World) (vl : Value) (es : List HE) (m : Assoc) (H : Holds g w' (HpRaw b vl mb (came + 1) es m (pts rb (.cells #[.int .i64 one, .int .i64 two] 251) :: F))) => (show w'.cell? ⟨rb, 0, none⟩ = some (.int .i64 one) ∧ w'.cell? ⟨rb, 1, none⟩ = some (.int .i64 two) ∧ w'.cell? ⟨b, 2, none⟩ = some (.int .i64 (came + 1)) from ⟨Holds.cell (Holds.p3 H) rfl, Holds.cell (Holds.p3 H) rfl, Holds.cell H rfl⟩))
  have S0 := hide (st.out _ _ _ _ HC.out.drew)
  have cP := hide (Hp_put HC.out.drew i hi'.out ⟨k, one, two, came + 1⟩)
  unfold heV at cP
  have hxi : Hide (hG (es.set i ⟨k, one, two, came + 1⟩) i = ⟨k, one, two, came + 1⟩) := ⟨by rw [hG_set _ _ _ _ hi'.out, if_pos rfl]⟩
  have hl2 : Hide ((es.set i ⟨k, one, two, came + 1⟩).length ≤ 1000000) := ⟨by rw [List.length_set]; exact hle⟩
  go_region_held3 (fun w' => w'.cell? ⟨rb, 0, none⟩ = some (.int .i64 one) ∧ w'.cell? ⟨rb, 1, none⟩ = some (.int .i64 two) ∧ w'.cell? ⟨b, 2, none⟩ = some (.int .i64 (came + 1))) (first | exact S0.out | exact S2.out)
    ((go_at_call 227; (with_reducible refine cP.out.mono ?_); rintro r w3 ⟨rfl, h2⟩; have h2 := hide h2; have S2 := hide (st.out _ _ _ _ h2.out)))
  all_goals
    clear S0 S2 st cP HC
    go_wp2_with (go_at_call 228; (with_reducible refine (Hp_settle h2.out hst.out hxi.out hl2.out hso.out hcm.out).mono ?_); rintro r w4 ⟨rfl, h3⟩)
    go_end0
    exact ⟨rfl, h3.p1.drop⟩
set_option maxRecDepth 100000 in
set_option maxHeartbeats 2000000 in
theorem Hp_Set_new {g w : World} {b : Nat} {srt : List HE} {came : Int} {F : List SProp} (h : Holds g w (IsHeap b srt came :: F)) (k : ByteArray) (one two : Int) (hc0 : 0 ≤ came) (hc : came < 1000000000000000) (hl : srt.length < 1000000) (hk : k ∉ srt.map (·.key)) :
    Calls Tryz.prog 226 #[.pointer (some ⟨b, 0, none⟩), .string k, .agg #[.int .i64 one, .int .i64 two]] w fun r w' => r = .returned (.tuple #[]) ∧ Holds g w' (IsHeap b (hSet srt came k one two) (came + 1) :: F) := by
  obtain ⟨es0, m, vl0, mb, hok, hle0, h⟩ := h.isHeap
  have hhas : m.has k = false := by
    have := mt (hok.has k).1 hk
    simpa using this
  obtain ⟨i, hn⟩ : ∃ n, es0.length = n := ⟨_, rfl⟩
  have hil : i < 1000000 := by rw [← hn, hok.len]; exact hl
  obtain ⟨rb, hrb⟩ : ∃ rb, w.heap.size = rb := ⟨_, rfl⟩
  have HA := h.alloc (o := .cells #[.int .i64 one, .int .i64 two] 251)
  rw [hrb] at HA
  have hst := hok.setNew one two hk
  rw [hn] at hst
  obtain ⟨srt2, hsrt2⟩ : ∃ s, hSet srt came k one two = s := ⟨_, rfl⟩
  have hso : Hide (HSorted srt2) := ⟨hsrt2 ▸ hSet_sorted hok.sorted hok.cames⟩
  have hcm : Hide (∀ x ∈ srt2, x.came ≤ came + 1) := ⟨hsrt2 ▸ hSet_cames hok.cames⟩
  rw [hsrt2] at hst
  rw [hsrt2]
  obtain ⟨es, hes⟩ : ∃ es, es0 ++ [he0] = es := ⟨_, rfl⟩
  have hes2 : es.set i ⟨k, one, two, came + 1⟩ = es0 ++ [⟨k, one, two, came + 1⟩] := by rw [← hes]; exact set_idx hn
  rw [← hes2] at hst
  have hst := hide hst
  have hi' : Hide (i < es.length) := ⟨by rw [← hes, List.length_append, hn]; simp⟩
  have hle : es.length ≤ 1000000 := by rw [← hes, List.length_append, hn, List.length_singleton]; omega
  clear hok hk hsrt2 h hes2 hl
  have hcs : Hide (heCells es0 ++ [.string ⟨#[]⟩, .int .i64 0, .int .i64 0, .int .i64 0] = heCells es) := ⟨by rw [← hes, heCells_append]; rfl⟩
  have hnl : Hide (i + 1 = es.length) := ⟨by rw [← hes, List.length_append, hn]; rfl⟩
  have lk := (HA.tail fun _ s => s).p3.lookupOk (t := 148) Tryz.underlying148 Tryz.underlying9 zeroInt k
  rw [hhas, as_get_none hhas, Option.getD_none] at lk
  unfold HpRaw at HA
  rw [hn] at HA
  obtain ⟨ao, cap, rfl⟩ := rowForm HA.p2.ownsRow
  have c0 := HA.p1.cell (off := 0) rfl
  have c1 := HA.p1.cell (off := 1) rfl
  have HA := hide HA
  clear hhas hes hn hle0
  obtain ⟨ii, hi, hz0, hz1, hz2⟩ := info_parts infoHItem
  have hi := hide hi
  have hz0 := hide hz0
  have hz1 := hide hz1
  have hz2 := hide hz2
  go_enter Tryz.func226, Tryz.ntmps226
  go_upto_region 1 with fail
  try simp only [hrb]
  have H12 := hide (HA.out.alloc' (o := .cells #[.string ⟨#[]⟩, .int .i64 0, .int .i64 0, .int .i64 0] 326)).p2
  generalize w.alloc (.cells #[.int .i64 one, .int .i64 two] 251) = W1 at HA H12 lk c0 c1 ⊢
  clear hrb
  go_upto_region 5 with (at_builtin; refine wpList_append_own_at _ rfl _ _ 319 rfl g.heap.size 326 ii (.agg #[.string ⟨#[]⟩, .int .i64 0, .int .i64 0, .int .i64 0]) 4 40 Tryz.underlying319 hi.out hz0.out hz1.out hz2.out rfl (by decide) _ i (heCells es0) rfl H12.out.ownsRow _ 1 _ [.string ⟨#[]⟩, .int .i64 0, .int .i64 0, .int .i64 0] rfl rfl (newCells4 _ _ _ _ _ _ _ (by simp)) (by simp [Value.oneCell']) (by simp only [maxLen]; omega) (by omega) H12.out.size ?_; intro vn wn o1 g1 _ hb1; obtain ⟨ao2, cap2, rfl⟩ := rowForm o1; have H13 := hide (H12.out.grown o1 g1 (by rcases hb1 with hb1 | hb1 <;> first | exact .inl hb1 | exact .inr ⟨_, hb1, Nat.le_refl _⟩)).p2; have y9 := Holds.free (off := 0) H13.out; have p9 := Holds.cell (off := 0) H13.out rfl; have H14 := hide (H13.out.setCell (off := 0) (v := .slice ao2 (i + 1) cap2)); clear o1 g1 hb1)
  have HB := H14.out.p2
  rw [hcs.out, hnl.out] at HB
  simp only [hnl.out]
  have HB := hide HB
  clear H14 H13 H12 y9 p9 HA lk c0 c1
  generalize wn.setCell ⟨b, 0, none⟩ (.slice ao2 es.length cap2) = W3 at HB ⊢
  generalize Value.slice ao2 es.length cap2 = vl at HB
  have c1 := hide True.intro
  have lk := hide True.intro
  have c2 : W3.cell? ⟨b, 2, none⟩ = some (.int .i64 came) := HB.out.p1.cell rfl
  have c2f : W3.frozen? ⟨b, 2, none⟩ = false := HB.out.p1.free
  have e1 : IntKind.i64.wrap (came + 1) = came + 1 := IntWalk.i64_in _ (by omega)
  have HC := (HB.out.p1.setCell (off := 2) (v := .int .i64 (came + 1))).p1
  have HC : Hide (Holds g (W3.setCell ⟨b, 2, none⟩ (.int .i64 (came + 1))) (HpRaw b vl mb (came + 1) es m (pts rb (.cells #[.int .i64 one, .int .i64 two] 251) :: F))) := ⟨HC.p3.p3.p3⟩
  go_upto_region 6 with fail
  generalize W3.setCell ⟨b, 2, none⟩ (.int .i64 (came + 1)) = W2 at HC ⊢
  clear HB c1 c2 c2f lk
  have st := hide (fun (w' : World) (vl : Value) (es : List HE) (m : Assoc) (H : Holds g w' (HpRaw b vl mb (came + 1) es m (pts rb (.cells #[.int .i64 one, .int .i64 two] 251) :: F))) => (show w'.cell? ⟨rb, 0, none⟩ = some (.int .i64 one) ∧ w'.cell? ⟨rb, 1, none⟩ = some (.int .i64 two) ∧ w'.cell? ⟨b, 2, none⟩ = some (.int .i64 (came + 1)) from ⟨Holds.cell (Holds.p3 H) rfl, Holds.cell (Holds.p3 H) rfl, Holds.cell H rfl⟩))
  have S0 := hide (st.out _ _ _ _ HC.out.drew)
  have cP := hide (Hp_put HC.out.drew i hi'.out ⟨k, one, two, came + 1⟩)
  unfold heV at cP
  have hxi : Hide (hG (es.set i ⟨k, one, two, came + 1⟩) i = ⟨k, one, two, came + 1⟩) := ⟨by rw [hG_set _ _ _ _ hi'.out, if_pos rfl]⟩
  have hl2 : Hide ((es.set i ⟨k, one, two, came + 1⟩).length ≤ 1000000) := ⟨by rw [List.length_set]; exact hle⟩
  go_region_held3 (fun w' => w'.cell? ⟨rb, 0, none⟩ = some (.int .i64 one) ∧ w'.cell? ⟨rb, 1, none⟩ = some (.int .i64 two) ∧ w'.cell? ⟨b, 2, none⟩ = some (.int .i64 (came + 1))) (first | exact S0.out | exact S2.out)
    ((go_at_call 227; (with_reducible refine cP.out.mono ?_); rintro r w3 ⟨rfl, h2⟩; have h2 := hide h2; have S2 := hide (st.out _ _ _ _ h2.out)))
  all_goals
    clear S0 S2 st cP HC
    go_wp2_with (go_at_call 228; (with_reducible refine (Hp_settle h2.out hst.out hxi.out hl2.out hso.out hcm.out).mono ?_); rintro r w4 ⟨rfl, h3⟩)
    go_end0
    exact ⟨rfl, h3.p1.drop⟩
end Go.Proofs.YtbbdimlpofjlfaaGreatDoor
/- A heap of keys: Rank, Least. -/
namespace Go.Proofs.YtbbdimlpofjlfaaGreatDoor
open Go Go.RowKit

theorem hFind_mem {srt : List HE} {k : ByteArray} {x : HE} (hn : (srt.map (·.key)).Nodup) (hx : x ∈ srt) (hk : x.key = k) : hFind srt k = some x := by
  induction srt with
  | nil => cases hx
  | cons y l ih =>
    unfold hFind
    rw [List.map_cons, List.nodup_cons] at hn
    rcases List.mem_cons.1 hx with rfl | hx
    · rw [List.find?_cons_of_pos (by simpa using hk)]
    · have hne : y.key ≠ k := fun e => hn.1 (by rw [e, ← hk]; exact List.mem_map_of_mem hx)
      rw [List.find?_cons_of_neg (by simpa using hne)]
      exact ih hn.2 hx
theorem hFind_none {srt : List HE} {k : ByteArray} (hk : k ∉ srt.map (·.key)) : hFind srt k = none := by
  unfold hFind
  rw [List.find?_eq_none]
  intro x hx
  have : x.key ≠ k := fun e => hk (e ▸ List.mem_map_of_mem hx)
  simpa using this
theorem infoRank : (Tryz.prog.info? 251).map (·.size) = some 2 := by kernel_rfl
theorem ret_rank {fn : Func} (hr : fn.results = #[.cell 4 251, .tmp 5]) {g w : World} {b : Nat} {F : List SProp} {v0 v1 v2 : Value} {tmps : Array Value} (h : Holds g w (pts b (.cells #[v0, v1] 251) :: F))
    (hp : tmps.getD 4 undef = .pointer (some ⟨b, 0, none⟩)) (hq : tmps.getD 5 undef = v2) : (results fn tmps).run Tryz.prog w = .ok (.tuple #[.agg #[v0, v1], v2]) w := by
  have hp' : tmps[4]?.getD undef = .pointer (some ⟨b, 0, none⟩) := by simpa using hp
  have hq' : tmps[5]?.getD undef = v2 := by simpa using hq
  simp [results, hr, hp', hq', asAddr, run_loadVar_row w b 251 251 _ (0, 0) _ h.block Tryz.underlying251 rfl infoRank]
theorem ret_least {fn : Func} (hr : fn.results = #[.tmp 2, .cell 3 251, .tmp 4]) {g w : World} {b : Nat} {F : List SProp} {v0 v1 v2 v3 : Value} {tmps : Array Value} (h : Holds g w (pts b (.cells #[v0, v1] 251) :: F))
    (hs : tmps.getD 2 undef = v3) (hp : tmps.getD 3 undef = .pointer (some ⟨b, 0, none⟩)) (hq : tmps.getD 4 undef = v2) : (results fn tmps).run Tryz.prog w = .ok (.tuple #[v3, .agg #[v0, v1], v2]) w := by
  have hs' : tmps[2]?.getD undef = v3 := by simpa using hs
  have hp' : tmps[3]?.getD undef = .pointer (some ⟨b, 0, none⟩) := by simpa using hp
  have hq' : tmps[4]?.getD undef = v2 := by simpa using hq
  simp [results, hr, hs', hp', hq', asAddr, run_loadVar_row w b 251 251 _ (0, 0) _ h.block Tryz.underlying251 rfl infoRank]
theorem put2 {g w : World} {b : Nat} {t : TypeId} {F : List SProp} {u0 u1 : Value} (h : Holds g w (pts b (.cells #[u0, u1] t) :: F)) (v0 v1 : Value) :
    Holds g ((w.setCell ⟨b, 0, none⟩ v0).setCell ⟨b, 1, none⟩ v1) (pts b (.cells #[v0, v1] t) :: F) :=
  setAt (setAt h (off := 0) (v := v0) (by simp; rfl)) (off := 1) (v := v1) (by simp)
set_option maxRecDepth 100000 in
set_option maxHeartbeats 1000000 in
theorem Hp_Rank_no {g w : World} {b : Nat} {srt : List HE} {came : Int} {F : List SProp} (h : Holds g w (IsHeap b srt came :: F)) (k : ByteArray) (hk : k ∉ srt.map (·.key)) :
    Calls Tryz.prog 225 #[.pointer (some ⟨b, 0, none⟩), .string k] w fun r w' => r = .returned (.tuple #[.agg #[.int .i64 0, .int .i64 0], .bool false]) ∧ Keep w w' := by
  obtain ⟨es, m, vl, mb, hok, hle, h⟩ := h.isHeap
  have hhas : m.has k = false := by
    have := mt (hok.has k).1 hk
    simpa using this
  unfold HpRaw at h
  have HA := h.alloc' (o := .cells #[.int .i64 0, .int .i64 0] 251)
  have HN := (Holds.start w).alloc (o := .cells #[.int .i64 0, .int .i64 0] 251)
  obtain ⟨r4, hr4⟩ : ∃ r, w.heap.size = r := ⟨_, rfl⟩
  rw [hr4] at HN
  have HN := hide HN
  have lk := HA.p2.lookupOk (t := 148) Tryz.underlying148 Tryz.underlying9 zeroInt k
  rw [hhas, as_get_none hhas, Option.getD_none] at lk
  have c1 := Holds.cell (off := 1) HA rfl
  have z0 := Holds.cell (off := 0) HN.out rfl
  have z1 := Holds.cell (off := 1) HN.out rfl
  have f0 := Holds.free (off := 0) HN.out
  have f1 := Holds.free (off := 1) HN.out
  have HR := put2 HN.out (.int .i64 0) (.int .i64 0)
  clear hok hk hhas h HA
  have HR := hide HR
  go_enter Tryz.func225, Tryz.ntmps225
  go_upto_region 1 with fail
  try simp only [hr4]
  generalize w.alloc (.cells #[.int .i64 0, .int .i64 0] 251) = W1 at *
  go_wp2
  refine bodyPost_ret (ret_rank rfl HR.out rfl rfl) rfl ?_
  exact ⟨rfl, HR.out.toKeep⟩
set_option maxRecDepth 100000 in
set_option maxHeartbeats 1000000 in
theorem Hp_Rank_yes {g w : World} {b : Nat} {srt : List HE} {came : Int} {F : List SProp} (h : Holds g w (IsHeap b srt came :: F)) (k : ByteArray) (hk : k ∈ srt.map (·.key)) (e : HE) (he : hFind srt k = some e) :
    Calls Tryz.prog 225 #[.pointer (some ⟨b, 0, none⟩), .string k] w fun r w' => r = .returned (.tuple #[.agg #[.int .i64 e.one, .int .i64 e.two], .bool true]) ∧ Keep w w' := by
  obtain ⟨es, m, vl, mb, hok, hle, h⟩ := h.isHeap
  have hhas := (hok.has k).2 hk
  obtain ⟨i, hi, hik, hget, hm⟩ := hok.find hk
  have he2 := hFind_mem hok.knd hm hik
  rw [he] at he2
  obtain ⟨n, hn⟩ : ∃ n, es.length = n := ⟨_, rfl⟩
  have hg := heCells_get es i hi
  rw [← Option.some.inj he2] at hg
  unfold HpRaw at h
  rw [hn] at h hi
  rcases h.p1.rowShape with ⟨_, h0, _⟩ | ⟨q, cap, rfl⟩
  · omega
  have HA := h.alloc' (o := .cells #[.int .i64 0, .int .i64 0] 251)
  have HN := (Holds.start w).alloc (o := .cells #[.int .i64 0, .int .i64 0] 251)
  obtain ⟨r4, hr4⟩ : ∃ r, w.heap.size = r := ⟨_, rfl⟩
  rw [hr4] at HN
  have HN := hide HN
  have lk := HA.p2.lookupOk (t := 148) Tryz.underlying148 Tryz.underlying9 zeroInt k
  rw [hhas, hget, Option.getD_some] at lk
  have c1 := Holds.cell (off := 1) HA rfl
  have c0 := Holds.cell (off := 0) HA rfl
  have y1 := HA.p1.rowCell hg.2.1
  have y2 := HA.p1.rowCell hg.2.2.1
  have z0 := Holds.cell (off := 0) HN.out rfl
  have z1 := Holds.cell (off := 1) HN.out rfl
  have f0 := Holds.free (off := 0) HN.out
  have f1 := Holds.free (off := 1) HN.out
  have HR := put2 HN.out (.int .i64 e.one) (.int .i64 e.two)
  have hin : (i : Int) < n := by omega
  clear hok hk hhas h HA hget hik hm he he2 hg hn
  have HR := hide HR
  go_enter Tryz.func225, Tryz.ntmps225
  go_upto_region 1 with fail
  try simp only [hr4]
  generalize w.alloc (.cells #[.int .i64 0, .int .i64 0] 251) = W1 at *
  go_wp2
  refine bodyPost_ret (ret_rank rfl HR.out rfl rfl) rfl ?_
  exact ⟨rfl, HR.out.toKeep⟩
set_option maxRecDepth 100000 in
set_option maxHeartbeats 1000000 in
theorem Hp_Least_no {g w : World} {b : Nat} {came : Int} {F : List SProp} (h : Holds g w (IsHeap b [] came :: F)) :
    Calls Tryz.prog 175 #[.pointer (some ⟨b, 0, none⟩)] w fun r w' => r = .returned (.tuple #[.string ⟨#[]⟩, .agg #[.int .i64 0, .int .i64 0], .bool false]) ∧ Keep w w' := by
  obtain ⟨es, m, vl, mb, hok, hle, h⟩ := h.isHeap
  have hn : es.length = 0 := by rw [hok.len]; rfl
  unfold HpRaw at h
  rw [hn] at h
  obtain ⟨ao, cap, rfl⟩ := rowForm h.p1.ownsRow
  have HA := h.alloc' (o := .cells #[.int .i64 0, .int .i64 0] 251)
  have HN := (Holds.start w).alloc (o := .cells #[.int .i64 0, .int .i64 0] 251)
  obtain ⟨r4, hr4⟩ : ∃ r, w.heap.size = r := ⟨_, rfl⟩
  rw [hr4] at HN
  have HN := hide HN
  have c0 := Holds.cell (off := 0) HA rfl
  have z0 := Holds.cell (off := 0) HN.out rfl
  have z1 := Holds.cell (off := 1) HN.out rfl
  have f0 := Holds.free (off := 0) HN.out
  have f1 := Holds.free (off := 1) HN.out
  have HR := put2 HN.out (.int .i64 0) (.int .i64 0)
  clear hok h HA hn
  have HR := hide HR
  go_enter Tryz.func175, Tryz.ntmps175
  go_upto_region 1 with fail
  try simp only [hr4]
  generalize w.alloc (.cells #[.int .i64 0, .int .i64 0] 251) = W1 at *
  go_wp2
  refine bodyPost_ret (ret_least rfl HR.out rfl rfl rfl) rfl ?_
  exact ⟨rfl, HR.out.toKeep⟩
set_option maxRecDepth 100000 in
set_option maxHeartbeats 1000000 in
theorem Hp_Least_yes {g w : World} {b : Nat} {came : Int} {e : HE} {srt : List HE} {F : List SProp} (h : Holds g w (IsHeap b (e :: srt) came :: F)) :
    Calls Tryz.prog 175 #[.pointer (some ⟨b, 0, none⟩)] w fun r w' => r = .returned (.tuple #[.string e.key, .agg #[.int .i64 e.one, .int .i64 e.two], .bool true]) ∧ Keep w w' := by
  obtain ⟨es, m, vl, mb, hok, hle, h⟩ := h.isHeap
  obtain ⟨hh, hpos⟩ := hok.ho.head hok.perm hok.sorted
  obtain ⟨n, hn⟩ : ∃ n, es.length = n := ⟨_, rfl⟩
  have hg := heCells_get es 0 hpos
  rw [hh] at hg
  unfold HpRaw at h
  rw [hn] at h hpos
  rcases h.p1.rowShape with ⟨_, h0, _⟩ | ⟨q, cap, rfl⟩
  · omega
  have HA := h.alloc' (o := .cells #[.int .i64 0, .int .i64 0] 251)
  have HN := (Holds.start w).alloc (o := .cells #[.int .i64 0, .int .i64 0] 251)
  obtain ⟨r4, hr4⟩ : ∃ r, w.heap.size = r := ⟨_, rfl⟩
  rw [hr4] at HN
  have HN := hide HN
  have hnz : ((n : Int) == 0) = false := beq_eq_false_iff_ne.2 (by omega)
  have hpos' : (0 : Int) < n := by omega
  have HB := ((Holds.start w).alloc (o := .cells #[.int .i64 0, .int .i64 0] 251))
  have c0 := Holds.cell (off := 0) HA rfl
  have y0 : (w.alloc (.cells #[.int .i64 0, .int .i64 0] 251)).cell? ⟨q, 0, none⟩ = some (.string e.key) := HA.p1.rowCell hg.1
  have y1 : (w.alloc (.cells #[.int .i64 0, .int .i64 0] 251)).cell? ⟨q, 1, none⟩ = some (.int .i64 e.one) := HA.p1.rowCell hg.2.1
  have y2 : (w.alloc (.cells #[.int .i64 0, .int .i64 0] 251)).cell? ⟨q, 2, none⟩ = some (.int .i64 e.two) := HA.p1.rowCell hg.2.2.1
  have z0 := Holds.cell (off := 0) HN.out rfl
  have z1 := Holds.cell (off := 1) HN.out rfl
  have f0 := Holds.free (off := 0) HN.out
  have f1 := Holds.free (off := 1) HN.out
  have n1 : ¬ r4 = q := by
    have := h.p1.rowLt
    omega
  have n2 : ¬ r4 = b := by
    have := h.lt
    omega
  have HR := put2 HN.out (.int .i64 e.one) (.int .i64 e.two)
  clear hok h HA hg hn hh HB
  have HR := hide HR
  go_enter Tryz.func175, Tryz.ntmps175
  go_upto_region 4 with fail
  try simp only [hr4]
  generalize w.alloc (.cells #[.int .i64 0, .int .i64 0] 251) = W1 at *
  go_region_held3 (fun w' => w'.cell? ⟨b, 0, none⟩ = some (.slice (some ⟨q, 0, none⟩) n cap) ∧ w'.cell? ⟨q, 0, none⟩ = some (.string e.key) ∧ w'.cell? ⟨q, 1, none⟩ = some (.int .i64 e.one) ∧ w'.cell? ⟨q, 2, none⟩ = some (.int .i64 e.two)) (go_keep) (fail)
  all_goals
    go_wp2
    refine bodyPost_ret (ret_least rfl HR.out.drew rfl rfl rfl) rfl ?_
    exact ⟨rfl, HR.out.drew.toKeep⟩
end Go.Proofs.YtbbdimlpofjlfaaGreatDoor
/- A heap of keys: Remove, Pop. -/
namespace Go.Proofs.YtbbdimlpofjlfaaGreatDoor
open Go Go.RowKit

set_option maxRecDepth 100000 in
theorem Hp_Remove_no {g w : World} {b : Nat} {srt : List HE} {came : Int} {F : List SProp} (h : Holds g w (IsHeap b srt came :: F)) (k : ByteArray) (hk : k ∉ srt.map (·.key)) :
    Calls Tryz.prog 174 #[.pointer (some ⟨b, 0, none⟩), .string k] w fun r w' => r = .returned (.bool false) ∧ Holds g w' (IsHeap b (hDel srt k) came :: F) := by
  rw [hDel_none hk]
  have h0 := hide h
  obtain ⟨es, m, vl, mb, hok, hle, h⟩ := h.isHeap
  have hhas : m.has k = false := by
    have := mt (hok.has k).1 hk
    simpa using this
  unfold HpRaw at h
  have lk := h.p2.lookupOk (t := 148) Tryz.underlying148 Tryz.underlying9 zeroInt k
  rw [hhas, as_get_none hhas, Option.getD_none] at lk
  have c1 := Holds.cell (off := 1) h rfl
  clear hok hk hhas h
  go_enter Tryz.func174, Tryz.ntmps174
  go_wp2
  go_ret
  exact ⟨rfl, h0.out⟩
set_option maxRecDepth 100000 in
set_option maxHeartbeats 2000000 in
theorem Hp_Remove_yes {g w : World} {b : Nat} {srt : List HE} {came : Int} {F : List SProp} (h : Holds g w (IsHeap b srt came :: F)) (k : ByteArray) (hk : k ∈ srt.map (·.key)) :
    Calls Tryz.prog 174 #[.pointer (some ⟨b, 0, none⟩), .string k] w fun r w' => r = .returned (.bool true) ∧ Holds g w' (IsHeap b (hDel srt k) came :: F) := by
  obtain ⟨es, m, vl, mb, hok, hle, h⟩ := h.isHeap
  obtain ⟨i, hi, hik, hget, _⟩ := hok.find hk
  have hhas := (hok.has k).2 hk
  obtain ⟨n, hn⟩ : ∃ n, es.length = n := ⟨_, rfl⟩
  obtain ⟨j, hj⟩ : ∃ j, j + 1 = n := ⟨n - 1, by omega⟩
  obtain ⟨x, hx⟩ : ∃ x, hG es j = x := ⟨_, rfl⟩
  have hg := heCells_get es j (by omega)
  rw [hx] at hg
  have hx := hide hx
  unfold HpRaw at h
  rw [hn] at h hi
  rcases h.p1.rowShape with ⟨_, h0, _⟩ | ⟨q, cap, rfl⟩
  · omega
  have lk := h.p2.lookupOk (t := 148) Tryz.underlying148 Tryz.underlying9 zeroInt k
  rw [hhas, hget, Option.getD_some] at lk
  have c1 := Holds.cell (off := 1) h rfl
  have c0 := Holds.cell (off := 0) h rfl
  have y0 := h.p1.rowCell hg.1
  have y1 := h.p1.rowCell hg.2.1
  have y2 := h.p1.rowCell hg.2.2.1
  have y3 := h.p1.rowCell hg.2.2.2
  have e1 : IntKind.i64.wrap ((n : Int) - 1) = (j : Int) := by rw [IntWalk.i64_in _ (by omega)]; omega
  have hjn : (j : Int) < n := by omega
  have hcap : (j : Int) ≤ (cap : Nat) := by
    obtain ⟨cur, hc, _⟩ := h.p1.rowPts
    have := hc.le
    omega
  have htk : (heCells es).take (j * 4) = heCells (es.take j) := by
    obtain ⟨l1, l2, he, hl⟩ := split_idx es j (by omega)
    rw [he, ← hl, List.take_left' rfl]
    unfold heCells
    rw [List.flatMap_append, List.take_left' (by rw [show (l1.flatMap fun x => [Value.string x.key, .int .i64 x.one, .int .i64 x.two, .int .i64 x.came]) = heCells l1 from rfl, heCells_length])]
  have HA := h.alloc (o := .cells #[.string x.key, .int .i64 x.one, .int .i64 x.two, .int .i64 x.came] 326)
  obtain ⟨xb, hxb⟩ : ∃ xb, w.heap.size = xb := ⟨_, rfl⟩
  rw [hxb] at HA
  have HA := hide HA
  have hok := hide hok
  have hik := hide hik
  have hn := hide hn
  have htk := hide htk
  clear hg hhas hget h hk
  go_enter Tryz.func174, Tryz.ntmps174
  go_upto_region 6 with fail
  try simp only [hxb]
  generalize w.alloc (.cells #[.string x.key, .int .i64 x.one, .int .i64 x.two, .int .i64 x.came] 326) = W1 at HA ⊢
  clear hxb lk c1 c0 y0 y1 y2 y3
  have c0 : W1.cell? ⟨b, 0, none⟩ = some (.slice (some ⟨q, 0, none⟩) n cap) := HA.out.p1.cell rfl
  have c0f : W1.frozen? ⟨b, 0, none⟩ = false := HA.out.p1.free
  have HB := ((HA.out.p1.setCell (off := 0) (v := .slice (some ⟨q, 0, none⟩) j cap)).p2.rowTake (m := j) (by omega)).p1
  rw [htk.out] at HB
  have HB := hide HB
  go_upto_region 7 with fail
  generalize W1.setCell ⟨b, 0, none⟩ (.slice (some ⟨q, 0, none⟩) j cap) = W2 at HB ⊢
  clear HA c0 c0f
  have c1 : W2.cell? ⟨b, 1, none⟩ = some (.map (some mb)) := HB.out.cell rfl
  obtain ⟨w5, hdel, H5⟩ := HB.out.p3.deleteMap (P := Tryz.prog) (t := 148) Tryz.underlying148 Tryz.underlying9 k 9 0
  have hlt : Hide ((es.take j).length = j) := ⟨by rw [List.length_take, hn.out]; omega⟩
  have HC : Hide (Holds g w5 (HpRaw b (.slice (some ⟨q, 0, none⟩) j cap) mb came (es.take j) (m.del k) (pts xb (.cells #[.string x.key, .int .i64 x.one, .int .i64 x.two, .int .i64 x.came] 326) :: F))) := ⟨by
    unfold HpRaw
    rw [hlt.out]
    exact H5.p1.p2.p1⟩
  clear HB H5
  by_cases hij : i < j
  · have d1 : decide ((i : Int) < j) = true := decide_eq_true (by omega)
    have d2 : decide (i < j) = true := decide_eq_true hij
    have hst := hide (hok.out.removeMid (n := j) (by have := hn.out; omega) hij hik.out)
    rw [hx.out] at hst
    have y0 := Holds.cell (off := 0) (Holds.p3 HC.out) rfl
    have y1 := Holds.cell (off := 1) (Holds.p3 HC.out) rfl
    have y2 := Holds.cell (off := 2) (Holds.p3 HC.out) rfl
    have y3 := Holds.cell (off := 3) (Holds.p3 HC.out) rfl
    have hil : Hide (i < (es.take j).length) := ⟨by rw [hlt.out]; exact hij⟩
    have cP := hide (Hp_put HC.out i hil.out x)
    unfold heV at cP
    have hxi : Hide (hG ((es.take j).set i x) i = x) := ⟨by rw [hG_set _ _ _ _ hil.out, if_pos rfl]⟩
    have hl2 : Hide (((es.take j).set i x).length ≤ 1000000) := ⟨by rw [List.length_set, hlt.out]; omega⟩
    have hso : Hide (HSorted (hDel srt k)) := ⟨List.Pairwise.filter _ hok.out.sorted⟩
    have hcm : Hide (∀ x ∈ hDel srt k, x.came ≤ came) := ⟨fun x hx => hok.out.cames x (List.mem_filter.1 hx).1⟩
    go_wp2_with (first
      | (go_at_call 227; (with_reducible refine cP.out.mono ?_); rintro r w3 ⟨rfl, h2⟩; have h2 := hide h2)
      | (go_at_call 228; (with_reducible refine (Hp_settle h2.out hst.out hxi.out hl2.out hso.out hcm.out).mono ?_); rintro r w4 ⟨rfl, h3⟩; have h3 := hide h3))
    go_ret
    exact ⟨rfl, h3.out.p1.drop⟩
  · have d1 : decide ((i : Int) < j) = false := decide_eq_false (by omega)
    have d2 : decide (i < j) = false := decide_eq_false hij
    obtain rfl : i = j := by omega
    have hlst := hide (hok.out.removeLast (i := i) (by have := hn.out; omega) hik.out)
    go_wp2
    go_ret
    exact ⟨rfl, ((Holds.toHeap hlst.out (by rw [hlt.out]; omega) HC.out).p1.drop)⟩
theorem Hp_Remove {g w : World} {b : Nat} {srt : List HE} {came : Int} {F : List SProp} (h : Holds g w (IsHeap b srt came :: F)) (k : ByteArray) (d : Bool) (hd : decide (k ∈ srt.map (·.key)) = d) :
    Calls Tryz.prog 174 #[.pointer (some ⟨b, 0, none⟩), .string k] w fun r w' => r = .returned (.bool d) ∧ Holds g w' (IsHeap b (hDel srt k) came :: F) := by
  subst hd
  by_cases hk : k ∈ srt.map (·.key)
  · rw [decide_eq_true hk]; exact Hp_Remove_yes h k hk
  · rw [decide_eq_false hk]; exact Hp_Remove_no h k hk
theorem Hp_Set {g w : World} {b : Nat} {srt : List HE} {came : Int} {F : List SProp} (h : Holds g w (IsHeap b srt came :: F)) (k : ByteArray) (one two : Int) (hc0 : 0 ≤ came) (hc : came < 1000000000000000) (hl : srt.length < 1000000) :
    Calls Tryz.prog 226 #[.pointer (some ⟨b, 0, none⟩), .string k, .agg #[.int .i64 one, .int .i64 two]] w fun r w' => r = .returned (.tuple #[]) ∧ Holds g w' (IsHeap b (hSet srt came k one two) (came + 1) :: F) := by
  by_cases hk : k ∈ srt.map (·.key)
  · exact Hp_Set_old h k one two hc0 hc hk
  · exact Hp_Set_new h k one two hc0 hc hl hk
theorem Hp_Rank {g w : World} {b : Nat} {srt : List HE} {came : Int} {F : List SProp} (h : Holds g w (IsHeap b srt came :: F)) (k : ByteArray) (one : Int) (ho : ((hFind srt k).map (·.one)).getD 0 = one) :
    Calls Tryz.prog 225 #[.pointer (some ⟨b, 0, none⟩), .string k] w fun r w' => ∃ two d, r = .returned (.tuple #[.agg #[.int .i64 one, .int .i64 two], .bool d]) ∧ Keep w w' := by
  subst ho
  by_cases hk : k ∈ srt.map (·.key)
  · obtain ⟨x, hx, hxk⟩ := List.mem_map.1 hk
    obtain ⟨es, m, vl, mb, hok, hle, h'⟩ := h.isHeap
    have he := hFind_mem hok.knd hx hxk
    rw [he]
    exact (Hp_Rank_yes h k hk x he).mono fun r w' ⟨hr, hk⟩ => ⟨_, _, hr, hk⟩
  · rw [hFind_none hk]
    exact (Hp_Rank_no h k hk).mono fun r w' ⟨hr, hk⟩ => ⟨_, _, hr, hk⟩
theorem hDel_head {e : HE} {srt : List HE} (h : ((e :: srt).map (·.key)).Nodup) : hDel (e :: srt) e.key = srt := hDel_mid (l1 := []) h
theorem Hp_Least {g w : World} {b : Nat} {srt : List HE} {came : Int} {F : List SProp} (h : Holds g w (IsHeap b srt came :: F)) (x : ByteArray) (hx : hFirst srt = x) (d : Bool) (hd : (!srt.isEmpty) = d) :
    Calls Tryz.prog 175 #[.pointer (some ⟨b, 0, none⟩)] w fun r w' => ∃ one two, r = .returned (.tuple #[.string x, .agg #[.int .i64 one, .int .i64 two], .bool d]) ∧ Keep w w' := by
  subst hx
  subst hd
  cases srt with
  | nil => exact (Hp_Least_no h).mono fun r w' ⟨hr, hk⟩ => ⟨_, _, hr, hk⟩
  | cons e l => exact (Hp_Least_yes h).mono fun r w' ⟨hr, hk⟩ => ⟨_, _, hr, hk⟩
set_option maxRecDepth 100000 in
set_option maxHeartbeats 2000000 in
theorem Hp_Pop {g w : World} {b : Nat} {srt : List HE} {came : Int} {F : List SProp} (h : Holds g w (IsHeap b srt came :: F)) (x : ByteArray) (hx : hFirst srt = x) (d : Bool) (hd : (!srt.isEmpty) = d) :
    Calls Tryz.prog 172 #[.pointer (some ⟨b, 0, none⟩)] w fun r w' => r = .returned (.tuple #[.string x, .bool d]) ∧ Holds g w' (IsHeap b srt.tail came :: F) := by
  have cL := hide (Hp_Least h x hx d hd)
  cases srt with
  | nil =>
    obtain rfl : false = d := hd
    have h := hide h
    clear hx
    go_enter Tryz.func172, Tryz.ntmps172
    go_wp2_with (go_at_call 175; (with_reducible refine cL.out.mono ?_); rintro r w1 ⟨one, two, rfl, k1⟩; have h1 := hide (h.out.keep k1); clear k1)
    go_ret2
    exact ⟨rfl, h1.out.alloc'⟩
  | cons e l =>
    obtain rfl : true = d := hd
    obtain rfl : e.key = x := hx
    have hdl : Hide (hDel (e :: l) e.key = l) := ⟨by
      obtain ⟨es, m, vl, mb, hok, hle, h'⟩ := h.isHeap
      exact hDel_head hok.knd⟩
    have hdm : Hide (decide (e.key ∈ (e :: l).map (·.key)) = true) := ⟨decide_eq_true (by simp)⟩
    have h := hide h
    go_enter Tryz.func172, Tryz.ntmps172
    go_wp2_with (first
      | (go_at_call 175; (with_reducible refine cL.out.mono ?_); rintro r w1 ⟨one, two, rfl, k1⟩; have h1 := hide ((h.out.keep k1).alloc' (o := .cells #[.int .i64 one, .int .i64 two] 251)); clear k1)
      | (go_at_call 174; (with_reducible refine (Hp_Remove h1.out e.key true hdm.out).mono ?_); rintro r w2 ⟨rfl, h2⟩; have h2 := hide h2))
    go_ret2
    refine ⟨rfl, ?_⟩
    have h3 := h2.out
    rw [hdl.out] at h3
    exact h3
end Go.Proofs.YtbbdimlpofjlfaaGreatDoor
