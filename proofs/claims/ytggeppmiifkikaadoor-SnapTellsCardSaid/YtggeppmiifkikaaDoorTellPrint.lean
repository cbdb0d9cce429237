/- The document's bytes of a picture. -/
import Derived.Test.YtggeppmiifkikaaDoorTellRight
import Derived.Test.YtggeppmiifkikaaDoorSnapAny
namespace Go.Proofs.YtggeppmiifkikaaDoor
open Go Go.RowKit Go.Shelf

theorem Ref_bytes1 (v : Nat) (b : ByteArray) (hb : (⟨(beB v 1).toArray⟩ : ByteArray) = b) (hv : v < 18446744073709551616) (w : World) :
    Calls Tryd.prog 31 #[.int .u64 v, .int .i64 1] w fun r w' => r = .returned (.string b) ∧ Keep w w' := by
  subst hb
  exact Ref_bytes v 1 hv (by omega) w
theorem Ref_bytes2 (v : Nat) (b : ByteArray) (hb : (⟨(beB v 2).toArray⟩ : ByteArray) = b) (hv : v < 18446744073709551616) (w : World) :
    Calls Tryd.prog 31 #[.int .u64 v, .int .i64 2] w fun r w' => r = .returned (.string b) ∧ Keep w w' := by
  subst hb
  exact Ref_bytes v 2 hv (by omega) w
theorem Ref_bytes8 (v : Nat) (b : ByteArray) (hb : (⟨(beB v 8).toArray⟩ : ByteArray) = b) (hv : v < 18446744073709551616) (w : World) :
    Calls Tryd.prog 31 #[.int .u64 v, .int .i64 8] w fun r w' => r = .returned (.string b) ∧ Keep w w' := by
  subst hb
  exact Ref_bytes v 8 hv (by omega) w
theorem Ref_HashK (s : ByteArray) (hs : s.size ≤ 100000) (w : World) :
    Calls Tryd.prog 32 #[.string s] w fun r w' => r = .returned (.int .u64 (hashN s.data.toList : Nat)) ∧ Keep w w' := by
  refine (Ref_Hash s hs w).mono ?_
  rintro r w' ⟨rfl, rfl⟩
  exact ⟨rfl, Keep.refl _⟩
theorem one_text1 {P : Program} {w : World} {src e dst : TypeId} (hs : P.underlying src = some (.slice e)) (he : P.underlying e = some (.int .u8)) (hd : P.underlying dst = some .string) (b : Nat)
    (h : w.cell? ⟨b, 0, none⟩ = some (.int .u8 1)) : (convert src dst (.slice (some ⟨b, 0, none⟩) 1 1)).run P w = .ok (.string ⟨#[1]⟩) w := one_text hs he hd b 1 h
theorem code_zero {p : Pic} : codeP p = 0 ↔ picE p = .nil := by
  constructor
  · intro h
    rcases EvOf.pic p with he | ⟨e', he, _, h2⟩
    · exact he
    · rw [codeP, he, codeE] at h
      exact absurd h h2
  · intro h
    rw [codeP, h]; rfl
theorem prS_err {p : Pic} (h : codeP p ≠ 0) : prS p = ⟨#[]⟩ := by
  unfold prS
  rw [if_neg]
  intro hn
  exact h (code_zero.2 (picE_isNil hn))
set_option maxRecDepth 100000 in
theorem Ref_Print_err (p : Pic) (v : Value) (w : World) (hv : ItemsAt w v p.items) (hp : FewP p) (h : codeP p ≠ 0) :
    Calls Tryd.prog 12 #[.agg (picCells p v)] w fun r w' => r = .returned (.tuple #[.string (prS p), .int .i64 (codeP p)]) ∧ Keep w w' := by
  rw [prS_err h]
  obtain ⟨ao, cap, rfl⟩ := hv.shape
  have H0 := hide ((Holds.start w).alloc (o := .cells (picCells p (.slice ao p.items.length cap)) 37))
  have cR := hide (fun w' k => Ref_Right p _ w' (hv.keep k) (by have := hp.len; omega))
  obtain ⟨c, hc⟩ : ∃ c, codeP p = c := ⟨_, rfl⟩
  rw [hc] at cR h ⊢
  have hc' : (c == 0) = false := beq_eq_false_iff_ne.2 h
  simp only [picCells] at cR H0
  obtain ⟨a0, a1, a2, a3, a4, a5, a6, a7, a8, a9⟩ := tenCells H0.out
  unfold picCells
  clear hv hp h hc
  go_enter Tryd.func12, Tryd.ntmps12
  go_wp2_with (go_at_call 30; (with_reducible refine (cR.out _ H0.out.drop.toKeep).mono ?_); rintro r w1 ⟨rfl, hk⟩; have hk := hide hk)
  go_ret2
  exact ⟨rfl, H0.out.drop.toKeep.trans hk.out⟩
set_option maxRecDepth 100000 in
set_option maxHeartbeats 8000000 in
theorem Ref_Print_ok (p : Pic) (v : Value) (w : World) (hv : ItemsAt w v p.items) (hp : Fine p) (hl : p.items.length ≤ 100000) :
    Calls Tryd.prog 12 #[.agg (picCells p v)] w fun r w' => r = .returned (.tuple #[.string ⟨(printB p).toArray⟩, .int .i64 0]) ∧ Keep w w' := by
  obtain ⟨n, hn⟩ : ∃ n, p.items.length = n := ⟨_, rfl⟩
  obtain ⟨ao, cap, hvs⟩ := hv.shape
  rw [hn] at hvs
  subst hvs
  have H0 := hide ((Holds.start w).alloc (o := .cells (picCells p (.slice ao n cap)) 37))
  have cR := hide (fun w' k => Ref_Right p _ w' (hv.keep k) hl)
  rw [code_zero.2 hp.err] at cR
  simp only [picCells] at cR H0
  obtain ⟨a0, a1, a2, a3, a4, a5, a6, a7, a8, a9⟩ := tenCells H0.out
  have hv := hide hv
  have f0 : IntKind.i64.wrap (p.c.pin + 1) = p.c.pin + 1 := IntWalk.i64_in _ (by have := fine_pin hp; omega)
  have hp := hide hp
  rw [hn] at hl
  have hn := hide hn
  have hvR := hide (fun (w' : World) b h => one_text1 (P := Tryd.prog) (w := w') Tryd.underlying50 Tryd.underlying5 Tryd.underlying9 b h)
  have nB : ¬ 9223372036854775807 < (⟨#[67, 87]⟩ : ByteArray).size + (⟨#[1]⟩ : ByteArray).size := by decide
  have hhv : Hide (headV p = #[.int .i64 p.c.size, .int .i64 p.c.shift, .int .i64 p.c.window, .int .i64 p.c.margin, .int .i64 p.c.hold, .int .i64 p.c.quota, .int .i64 (p.c.pin + 1), .int .i64 p.kind, .int .i64 p.now, .int .i64 n]) := ⟨by unfold headV; rw [hn.out]⟩
  unfold picCells
  go_enter Tryd.func12, Tryd.ntmps12
  go_wp2_with (go_at_call 30; (with_reducible refine (cR.out _ H0.out.drop.toKeep).mono ?_); rintro r w1 ⟨rfl, h⟩
               have H1 := hide ((H0.out.keep h).alloc' (o := .cells #[.int .u8 1] 5))
               obtain ⟨d0, d1, d2, d3, d4, d5, d6, d7, d8, d9⟩ := tenCells H1.out
               have hcv := hvR.out (w1.alloc (.cells #[.int .u8 1] 5)) w1.heap.size (World.cell?_alloc_new _ _ _ _)
               clear h)
  have H2 := H1.out.alloc (o := .cells #[.int .i64 p.c.size, .int .i64 p.c.shift, .int .i64 p.c.window, .int .i64 p.c.margin, .int .i64 p.c.hold, .int .i64 p.c.quota, .int .i64 (p.c.pin + 1), .int .i64 p.kind, .int .i64 p.now, .int .i64 n] 75)
  obtain ⟨pb, hpb⟩ : ∃ pb, w.heap.size = pb := ⟨_, rfl⟩
  obtain ⟨ab, hab⟩ : ∃ ab, (w1.alloc (.cells #[.int .u8 1] 5)).heap.size = ab := ⟨_, rfl⟩
  rw [hpb, hab] at H2
  rw [World.size_alloc] at hab
  simp only [hpb, hab]
  have H2 := hide H2
  clear hpb hab d0 d1 d2 d3 d4 d5 d6 d7 d8 d9 hcv a0 a1 a2 a3 a4 a5 a6 a7 a8 a9 H0 H1 f0 nB hvR cR
  go_loopw [5, 7] (fun s i wr => ∃ k : Nat, ∃ z : ByteArray, s = .string z ∧ i = .int .i64 k ∧ k ≤ 10 ∧ z.size = 3 + 8 * k ∧ Hide (z = ⟨(headK p k).toArray⟩) ∧ Holds w wr [pts ab (.cells (headV p) 75), pts pb (.cells #[.int .i64 p.c.size, .int .i64 p.c.shift, .int .i64 p.c.window, .int .i64 p.c.margin, .int .i64 p.c.hold, .int .i64 p.c.quota, .int .i64 p.c.pin, .int .i64 p.kind, .int .i64 p.now, .slice ao n cap] 37)]) (fun _ i _ => (10 - intOf i).toNat)
  case atStart => exact ⟨0, _, rfl, rfl, Nat.zero_le _, rfl, ⟨by apply ByteArray.ext; simp [headK, hd0]⟩, by rw [hhv.out]; exact H2.out⟩
  case round =>
    clear H2
    obtain ⟨k, z, rfl, rfl, hk, hz, hZ, hh⟩ := hrel
    have H := hide hh
    clear hh
    by_cases hlt : k < 10
    · have hlt' : (k : Int) < 10 := by omega
      have hc := H.out.cell (headV_get p k hlt)
      have hb := head_bound hp.out k
      have hts := head_take p k hlt
      obtain ⟨m, hm⟩ : ∃ m, (headL p).getD k 0 = m := ⟨_, rfl⟩
      rw [hm] at hc hb hts
      have f1 : IntKind.u64.wrap m = ((m.toNat : Nat) : Int) := by rw [IntKind.wrap_u64]; omega
      have hml : m.toNat < 18446744073709551616 := by omega
      obtain ⟨u, hu⟩ : ∃ u, m.toNat = u := ⟨_, rfl⟩
      rw [hu] at f1 hml hts
      obtain ⟨sb, hsb⟩ : ∃ sb : ByteArray, ⟨(beB u 8).toArray⟩ = sb := ⟨_, rfl⟩
      have lb : sb.size = 8 := by rw [← hsb, be_size]
      have n1 : ¬ 9223372036854775807 < z.size + sb.size := by omega
      have hN : Hide (z ++ sb = ⟨(headK p (k + 1)).toArray⟩) := ⟨by rw [hts, hZ.out, ← hsb]; apply ByteArray.ext; rw [ByteArray.data_append]; simp⟩
      have cB := hide (fun w => Ref_bytes8 u sb hsb hml w)
      clear hts hsb hu hm
      go_wp2_with (go_at_call 31; (with_reducible refine (cB.out _).mono ?_); rintro e w3 ⟨rfl, h⟩; have H4 := hide (H.out.keep h); clear h)
      go_roundw
      case rel => exact ⟨k + 1, z ++ sb, rfl, by go_num, hlt, by rw [ByteArray.size_append, hz, lb]; omega, hN, H4.out⟩
      case measure => (simp [intOf] <;> omega)
    · obtain rfl : k = 10 := by omega
      rw [show ((10 : Nat) : Int) = 10 from rfl]
      have HB := hide H.out.drop
      clear H
      go_wp2
      go_loopw [5, 8] (fun s i wr => ∃ k : Nat, ∃ z : ByteArray, s = .string z ∧ i = .int .i64 k ∧ k ≤ n ∧ Hide (z = ⟨(headB p ++ (p.items.take k).flatMap itB).toArray⟩) ∧ Holds w wr [pts pb (.cells #[.int .i64 p.c.size, .int .i64 p.c.shift, .int .i64 p.c.window, .int .i64 p.c.margin, .int .i64 p.c.hold, .int .i64 p.c.quota, .int .i64 p.c.pin, .int .i64 p.kind, .int .i64 p.now, .slice ao n cap] 37)]) (fun _ i _ => (n - intOf i).toNat)
      case atStart => exact ⟨0, _, rfl, rfl, Nat.zero_le _, ⟨by rw [hZ.out, List.take_zero, List.flatMap_nil, List.append_nil]; rfl⟩, HB.out⟩
      case round =>
        clear HB hZ hz
        obtain ⟨k, z, rfl, rfl, hk, hZ, hh⟩ := hrel
        have H := hide hh
        clear hh
        have hzl : z.size ≤ 90000 := by
          have := Nat.le_trans (body_take p k) hp.out.len
          rw [hZ.out, ba_size]; exact this
        have c9 : wr.cell? ⟨pb, 9, none⟩ = some (.slice ao n cap) := H.out.cell rfl
        by_cases hlt : k < n
        · have hlt' : (k : Int) < n := by omega
          obtain ⟨x, hx⟩ : ∃ x, p.items[k]? = some x := ⟨_, List.getElem?_eq_getElem (by have := hn.out; omega)⟩
          obtain ⟨bb, off, rfl, q0, q1, q2⟩ := hv.out.at' k hx
          have q0 := H.out.toKeep.cell q0
          have q1 := H.out.toKeep.cell q1
          have q2 := H.out.toKeep.cell q2
          obtain ⟨hi1, hi2, hi3, hi4⟩ := fine_item hp.out hx
          obtain ⟨key, u, d⟩ := x
          dsimp only at q0 q1 q2 hi1 hi2 hi3 hi4
          obtain ⟨dn, rfl⟩ : ∃ dn : Nat, d = dn := ⟨d.toNat, by omega⟩
          have hts : (p.items.take (k + 1)).flatMap itB = (p.items.take k).flatMap itB ++ itB ⟨key, u, dn⟩ := by rw [List.take_add_one, hx, List.flatMap_append]; simp
          obtain ⟨sa, hsa⟩ : ∃ sa : ByteArray, ⟨(beB key.size 1).toArray⟩ = sa := ⟨_, rfl⟩
          obtain ⟨sb, hsb⟩ : ∃ sb : ByteArray, ⟨(beB u.size 2).toArray⟩ = sb := ⟨_, rfl⟩
          obtain ⟨sc, hsc⟩ : ∃ sc : ByteArray, ⟨(beB dn 8).toArray⟩ = sc := ⟨_, rfl⟩
          have la : sa.size ≤ 1 := by rw [← hsa, be_size]; omega
          have lb : sb.size ≤ 2 := by rw [← hsb, be_size]; omega
          have lc : sc.size ≤ 8 := by rw [← hsc, be_size]; omega
          have hN : Hide (z ++ sa ++ key ++ sb ++ u ++ sc = ⟨(headB p ++ (p.items.take (k + 1)).flatMap itB).toArray⟩) := ⟨by
            rw [hts, hZ.out, ← hsa, ← hsb, ← hsc]; apply ByteArray.ext; simp only [ByteArray.data_append, itB]; simp⟩
          have nA := hide (fun w => Ref_bytes1 key.size sa hsa (by omega) w)
          have nB := hide (fun w => Ref_bytes2 u.size sb hsb (by omega) w)
          have nC := hide (fun w => Ref_bytes8 dn sc hsc (by omega) w)
          have f1 : IntKind.u64.wrap (key.size : Int) = (key.size : Int) := by rw [IntKind.wrap_u64]; omega
          have f2 : IntKind.u64.wrap (u.size : Int) = (u.size : Int) := by rw [IntKind.wrap_u64]; omega
          have f3 : IntKind.u64.wrap (dn : Int) = (dn : Int) := by rw [IntKind.wrap_u64]; omega
          have hk1 := hide ((H.out.alloc (o := .cells #[.string key, .string u, .int .i64 dn] 76)).drew)
          have stableH : Hide (∀ w' F, Holds w w' (pts wr.heap.size (.cells #[.string key, .string u, .int .i64 dn] 76) :: F) →
            w'.cell? ⟨wr.heap.size, 0, none⟩ = some (.string key) ∧ w'.cell? ⟨wr.heap.size, 1, none⟩ = some (.string u) ∧ w'.cell? ⟨wr.heap.size, 2, none⟩ = some (.int .i64 dn)) := ⟨fun w' F h => ⟨h.cell rfl, h.cell rfl, h.cell rfl⟩⟩
          have n0 : ¬ 9223372036854775807 < z.size + sa.size := by omega
          have n1 : ¬ 9223372036854775807 < z.size + sa.size + key.size := by omega
          have n2 : ¬ 9223372036854775807 < z.size + sa.size + key.size + sb.size := by omega
          have n3 : ¬ 9223372036854775807 < z.size + sa.size + key.size + sb.size + u.size := by omega
          have n4 : ¬ 9223372036854775807 < z.size + sa.size + key.size + sb.size + u.size + sc.size := by omega
          clear hx hts hsa hsb hsc
          go_wp2
          go_region_held3 (fun w' => w'.cell? ⟨wr.heap.size, 0, none⟩ = some (.string key) ∧ w'.cell? ⟨wr.heap.size, 1, none⟩ = some (.string u) ∧ w'.cell? ⟨wr.heap.size, 2, none⟩ = some (.int .i64 dn))
            (exact stableH.out _ _ hk1.out)
            ((first
              | (go_at_call 31; (with_reducible refine (nA.out _).mono ?_); rintro r w3 ⟨rfl, h3⟩; replace hk1 := hide (hk1.out.keep h3); clear h3)
              | (go_at_call 31; (with_reducible refine (nB.out _).mono ?_); rintro r w3 ⟨rfl, h3⟩; replace hk1 := hide (hk1.out.keep h3); clear h3)
              | (go_at_call 31; (with_reducible refine (nC.out _).mono ?_); rintro r w3 ⟨rfl, h3⟩; replace hk1 := hide (hk1.out.keep h3); clear h3)))
          all_goals
            go_wp2
            go_roundw
            case rel => exact ⟨k + 1, _, rfl, by go_num, hlt, hN, hk1.out.drop⟩
            case measure => (simp [intOf] <;> omega)
        · obtain rfl : k = n := by omega
          have hzb : z = ⟨(bodyB p).toArray⟩ := by rw [hZ.out, List.take_of_length_le (by rw [hn.out]; omega)]; rfl
          have hzd : z.data.toList = bodyB p := by rw [hzb]
          have cH := hide (Ref_HashK z (by omega))
          have hhl := hashN_lt z.data.toList
          obtain ⟨q, hq⟩ : ∃ q, hashN z.data.toList = q := ⟨_, rfl⟩
          rw [hq] at cH hhl
          obtain ⟨sc, hsc⟩ : ∃ sc : ByteArray, ⟨(beB q 8).toArray⟩ = sc := ⟨_, rfl⟩
          have cB := hide (fun w => Ref_bytes8 q sc hsc hhl w)
          have lc : sc.size = 8 := by rw [← hsc, be_size]
          have n1 : ¬ 9223372036854775807 < z.size + sc.size := by omega
          have hE : Hide (z ++ sc = ⟨(printB p).toArray⟩) := ⟨by
            rw [← hsc, ← hq, hzd, hzb]; apply ByteArray.ext; rw [ByteArray.data_append]; simp [printB]⟩
          clear hzb hzd hq hsc
          go_wp2_with (first
            | (go_at_call 32; (with_reducible refine (cH.out _).mono ?_); rintro r w3 ⟨rfl, h⟩; have H4 := hide (H.out.keep h); clear h)
            | (go_at_call 31; (with_reducible refine (cB.out _).mono ?_); rintro r w4 ⟨rfl, h⟩; have H5 := hide (H4.out.keep h); clear h))
          go_ret2
          exact ⟨congrArg (fun y => Ending.returned (.tuple #[.string y, .int .i64 0])) hE.out, H5.out.toKeep⟩
theorem Ref_Print (p : Pic) (v : Value) (w : World) (hv : ItemsAt w v p.items) (hp : FewP p) :
    Calls Tryd.prog 12 #[.agg (picCells p v)] w fun r w' => r = .returned (.tuple #[.string (prS p), .int .i64 (codeP p)]) ∧ Keep w w' := by
  by_cases h : codeP p = 0
  · have he := code_zero.1 h
    have e : prS p = ⟨(printB p).toArray⟩ := by unfold prS; rw [he]; rfl
    rw [h, e]
    exact Ref_Print_ok p v w hv (hp.fine he) (by have := hp.len; omega)
  · exact Ref_Print_err p v w hv hp h
end Go.Proofs.YtggeppmiifkikaaDoor
