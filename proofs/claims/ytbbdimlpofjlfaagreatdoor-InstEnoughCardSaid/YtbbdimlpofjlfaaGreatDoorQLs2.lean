/- A list of keys: Remove. -/
import Derived.Test.YtbbdimlpofjlfaaGreatDoorQLsRow
import Derived.Deep.DeepCutAuto
import Derived.Deep.RegionHeld3
namespace Go.Proofs.YtbbdimlpofjlfaaGreatDoor
open Go Go.RowKit

set_option maxRecDepth 100000 in
set_option maxHeartbeats 2000000 in
theorem List_Remove_yes {g w : World} {b : Nat} {ks : List ByteArray} {F : List SProp} (h : Holds g w (IsList b ks :: F)) (k : ByteArray) (hk : k ∈ ks) :
    Calls Tryz.prog 164 #[.pointer (some ⟨b, 0, none⟩), .string k] w fun r w' => r = .returned (.bool true) ∧ Holds g w' (IsList b (kDel ks k) :: F) := by
  obtain ⟨a, e, m, is, va, ve, mb, hok, hal, h⟩ := h.isList
  obtain ⟨l1, i, l2, his, hki, hmi, hil⟩ := hok.find hk
  obtain ⟨P, x, hP⟩ := snoc_of 0 l1
  obtain ⟨y, S, hS⟩ := cons_of l2 0
  obtain ⟨hx, hy⟩ := hok.beside his hP hS
  have hkd := hok.kdel his
  have hrm := hok.remove his hP hS
  rw [hki] at hkd hrm
  rw [hkd] at hrm
  have hxl : x < a.length := by
    have : x ∈ 0 :: l1 := by rw [hP]; simp
    rcases List.mem_cons.1 this with rfl | hx
    · exact hok.pos
    · exact hok.lt x (by rw [his]; simp [hx])
  have hyl : y < a.length := by
    have : y ∈ l2 ++ [0] := by rw [hS]; simp
    rcases List.mem_append.1 this with hy | hy
    · exact hok.lt y (by rw [his]; simp [hy])
    · rw [List.mem_singleton.1 hy]; exact hok.pos
  have hmt := (hok.has k).2 hk
  obtain ⟨n, hn⟩ : ∃ n, a.length = n := ⟨_, rfl⟩
  have hlk : e.length ≤ 1000000 := by have := hok.len; omega
  have g0 := plCells_get a i hil
  rw [hki, hx, hy] at g0
  have gx := plCells_get a x hxl
  have gy := plCells_get a y hyl
  have eN := plCells_sN a x y hxl
  have eL := plCells_sL (sN a x y) y x (by rw [sN_length]; exact hyl)
  have eZ := plCells_set (sL (sN a x y) y x) i plc0 (by rw [sL_length, sN_length]; exact hil)
  rw [eN] at eL
  rw [eL] at eZ
  rw [hn] at h hil hxl hyl hal
  rcases h.p1.rowShape with ⟨_, h0, _⟩ | ⟨q, cap, rfl⟩
  · omega
  have HR := h.p1
  have i0 := HR.rowCell g0.1
  have i1 := HR.rowCell g0.2.1
  have i2 := HR.rowCell g0.2.2
  have c0 : w.cell? ⟨b, 0, none⟩ = some (.slice (some ⟨q, 0, none⟩) n cap) := h.cell rfl
  have c2 : w.cell? ⟨b, 2, none⟩ = some (.map (some mb)) := h.cell rfl
  have lk := h.p3.lookupOk (t := 148) Tryz.underlying148 Tryz.underlying9 zeroInt k
  rw [hmt, hmi, Option.getD_some] at lk
  have hilt : (i : Int) < n := by omega
  have hxlt : (x : Int) < n := by omega
  have hylt : (y : Int) < n := by omega
  have H1 := hide (HR.alloc (o := .cells #[.string k, .int .i64 y, .int .i64 x] 318))
  have gx1 := hide gx.2.1
  have gy2 := hide gy.2.2
  have hrm := hide hrm
  have eZ := hide eZ
  have hn := hide hn
  have hlk := hide hlk
  clear h HR hk his hki hmi hP hS hx hy hkd hmt g0 gx gy eN eL hok
  obtain ⟨ii, hi, hz0, hz1, hz2⟩ := info_parts infoInt
  have hi := hide hi
  have hz0 := hide hz0
  have hz1 := hide hz1
  have hz2 := hide hz2
  go_enter Tryz.func164, Tryz.ntmps164
  go_upto_region 5 with fail
  obtain ⟨pk, hpk⟩ : ∃ pk, w.heap.size = pk := ⟨_, rfl⟩
  simp only [hpk] at H1 ⊢
  generalize w.alloc (.cells #[.string k, .int .i64 y, .int .i64 x] 318) = w1 at H1 ⊢
  clear hpk i0 i1 i2 c0 c2 lk
  have c0 : w1.cell? ⟨b, 0, none⟩ = some (.slice (some ⟨q, 0, none⟩) n cap) := H1.out.p2.cell rfl
  have p1 : w1.cell? ⟨pk, 1, none⟩ = some (.int .i64 y) := H1.out.cell rfl
  have p2 : w1.cell? ⟨pk, 2, none⟩ = some (.int .i64 x) := H1.out.cell rfl
  have x1 := H1.out.p1.rowCell gx1.out
  have y2 := H1.out.p1.rowCell gy2.out
  have x1f := H1.out.p1.rowFree (j := x * 3 + 1)
  have y2f := H1.out.p1.rowFree (j := y * 3 + 2)
  have HS := hide (H1.out.p1.rowSet (x * 3 + 1) (.int .i64 y))
  have y2' := HS.out.rowCell (j := y * 3 + 2) (by rw [List.getElem?_set_ne (by omega)]; exact gy2.out)
  have y2f' := HS.out.rowFree (j := y * 3 + 2)
  have c0' : (w1.setCell ⟨q, x * 3 + 1, none⟩ (.int .i64 y)).cell? ⟨b, 0, none⟩ = some (.slice (some ⟨q, 0, none⟩) n cap) := HS.out.p2.cell rfl
  have p1' : (w1.setCell ⟨q, x * 3 + 1, none⟩ (.int .i64 y)).cell? ⟨pk, 1, none⟩ = some (.int .i64 y) := HS.out.p1.cell rfl
  have p2' : (w1.setCell ⟨q, x * 3 + 1, none⟩ (.int .i64 y)).cell? ⟨pk, 2, none⟩ = some (.int .i64 x) := HS.out.p1.cell rfl
  have HT := hide (HS.out.rowSet (y * 3 + 2) (.int .i64 x))
  have hq : (¬ q = pk) ∧ ¬ q = b := by
    obtain ⟨cur, _, hh⟩ := H1.out.p1.rowPts
    exact ⟨hh.ne, fun e => hh.p2.ne e.symm⟩
  obtain ⟨n1, n2⟩ := hq
  go_region_held3 (fun w' => w'.cell? ⟨b, 0, none⟩ = some (.slice (some ⟨q, 0, none⟩) n cap) ∧ w'.cell? ⟨pk, 1, none⟩ = some (.int .i64 y) ∧ w'.cell? ⟨pk, 2, none⟩ = some (.int .i64 x)) (go_keep) (fail)
  have HU := hide HT.out.drew
  clear HT HS H1 c0 p1 p2 x1 y2 x1f y2f y2' y2f' c0' p1' p2' gx1 gy2
  generalize ((w1.setCell ⟨q, x * 3 + 1, none⟩ (.int .i64 y)).setCell ⟨q, y * 3 + 2, none⟩ (.int .i64 x)).drew = w2 at HU ⊢
  have hln : (((plCells a).set (x * 3 + 1) (.int .i64 y)).set (y * 3 + 2) (.int .i64 x)).length = n * 3 := by
    rw [List.length_set, List.length_set, plCells_length, hn.out]
  obtain ⟨v0, hv0⟩ : ∃ v, (((plCells a).set (x * 3 + 1) (.int .i64 y)).set (y * 3 + 2) (.int .i64 x))[i * 3]? = some v := ⟨_, List.getElem?_eq_getElem (by omega)⟩
  obtain ⟨v1, hv1⟩ : ∃ v, (((plCells a).set (x * 3 + 1) (.int .i64 y)).set (y * 3 + 2) (.int .i64 x))[i * 3 + 1]? = some v := ⟨_, List.getElem?_eq_getElem (by omega)⟩
  obtain ⟨v2, hv2⟩ : ∃ v, (((plCells a).set (x * 3 + 1) (.int .i64 y)).set (y * 3 + 2) (.int .i64 x))[i * 3 + 2]? = some v := ⟨_, List.getElem?_eq_getElem (by omega)⟩
  have c0 : w2.cell? ⟨b, 0, none⟩ = some (.slice (some ⟨q, 0, none⟩) n cap) := HU.out.p2.cell rfl
  have z0 := HU.out.rowCell hv0
  have z1 := HU.out.rowCell hv1
  have z2 := HU.out.rowCell hv2
  have f0 := HU.out.rowFree (j := i * 3)
  have f1 := HU.out.rowFree (j := i * 3 + 1)
  have f2 := HU.out.rowFree (j := i * 3 + 2)
  have HV := hide (((HU.out.rowSet (i * 3) (.string ⟨#[]⟩)).rowSet (i * 3 + 1) (.int .i64 0)).rowSet (i * 3 + 2) (.int .i64 0))
  clear hv0 hv1 hv2 hln
  go_upto_region 7 with fail
  clear HU z0 z1 z2 f0 f1 f2 c0
  generalize ((w2.setCell ⟨q, i * 3, none⟩ (.string ⟨#[]⟩)).setCell ⟨q, i * 3 + 1, none⟩ (.int .i64 0)).setCell ⟨q, i * 3 + 2, none⟩ (.int .i64 0) = w3 at HV ⊢
  have c1 : w3.cell? ⟨b, 1, none⟩ = some ve := HV.out.p2.cell rfl
  have H12 := hide (HV.out.alloc' (o := .cells #[.int .i64 i] 3)).p3
  go_upto_region 8 with (at_builtin; refine wpList_append_own_at _ rfl _ _ 238 rfl g.heap.size 3 ii (.int .i64 0) 1 8 Tryz.underlying238 hi.out hz0.out hz1.out hz2.out rfl (by decide) _ e.length (nInts e) rfl H12.out.ownsRow _ 1 _ [.int .i64 i] rfl rfl (newCells1 _ _ _ _ (by simp)) (by simp [Value.oneCell']) (by simp only [maxLen]; have := hlk.out; omega) (by have := hlk.out; omega) H12.out.size ?_; intro vn wn o1 g1 _ hb1; obtain ⟨ao2, cap2, rfl⟩ := rowForm o1; have H13 := hide (H12.out.grown o1 g1 (by rcases hb1 with hb1 | hb1 <;> first | exact .inl hb1 | exact .inr ⟨_, hb1, Nat.le_refl _⟩)).p3; have y9 := Holds.free (off := 1) H13.out; have p9 := Holds.cell (off := 1) H13.out rfl; have H14 := hide (H13.out.setCell (off := 1) (v := .slice ao2 (e.length + 1) cap2)); have m2 := Holds.cell (off := 2) (v := .map (some mb)) H14.out rfl; clear o1 g1 hb1)
  obtain ⟨w5, hdel, H5⟩ := H14.out.p4.deleteMap (P := Tryz.prog) (t := 148) Tryz.underlying148 Tryz.underlying9 k 9 0
  have H5 := hide H5
  go_wp2
  go_ret
  have HZ := H5.out.p4.drop.p2.p3.p3
  refine ⟨rfl, Holds.toList (va := .slice (some ⟨q, 0, none⟩) n cap) (ve := .slice ao2 (e.length + 1) cap2) (mb := mb) hrm.out ?_ ?_⟩
  · rw [List.length_set, sL_length, sN_length, hn.out]; exact hal
  · rw [eZ.out, List.length_set, sL_length, sN_length, hn.out, List.length_append, show nInts (e ++ [i]) = nInts e ++ [.int .i64 i] from List.map_append]
    exact HZ
set_option maxRecDepth 100000 in
theorem List_Remove_no {g w : World} {b : Nat} {ks : List ByteArray} {F : List SProp} (h : Holds g w (IsList b ks :: F)) (k : ByteArray) (hk : k ∉ ks) :
    Calls Tryz.prog 164 #[.pointer (some ⟨b, 0, none⟩), .string k] w fun r w' => r = .returned (.bool false) ∧ Holds g w' (IsList b (kDel ks k) :: F) := by
  rw [kDel_none hk]
  have h0 := hide h
  obtain ⟨a, e, m, is, va, ve, mb, hok, _, h⟩ := h.isList
  have c2 : w.cell? ⟨b, 2, none⟩ = some (.map (some mb)) := h.cell rfl
  have lk := h.p3.lookupOk (t := 148) Tryz.underlying148 Tryz.underlying9 zeroInt k
  rw [hok.hasF hk, as_get_none (hok.hasF hk), Option.getD_none] at lk
  clear h hok hk
  go_enter Tryz.func164, Tryz.ntmps164
  go_wp2
  go_ret
  exact ⟨rfl, h0.out⟩
theorem List_Remove {g w : World} {b : Nat} {ks : List ByteArray} {F : List SProp} (h : Holds g w (IsList b ks :: F)) (k : ByteArray) (d : Bool) (hd : decide (k ∈ ks) = d) :
    Calls Tryz.prog 164 #[.pointer (some ⟨b, 0, none⟩), .string k] w fun r w' => r = .returned (.bool d) ∧ Holds g w' (IsList b (kDel ks k) :: F) := by
  subst hd
  by_cases hk : k ∈ ks
  · rw [decide_eq_true hk]; exact List_Remove_yes h k hk
  · rw [decide_eq_false hk]; exact List_Remove_no h k hk
end Go.Proofs.YtbbdimlpofjlfaaGreatDoor
/- A list of keys: a key comes behind a place. -/
namespace Go.Proofs.YtbbdimlpofjlfaaGreatDoor
open Go Go.RowKit

/-- The rest of behind: the new key's place is there. -/
structure Behind (a : List Plc) (e : List Nat) (m : Assoc) (is : List Nat) (ks : List ByteArray) (i k y : Nat) (key : ByteArray) (ks' : List ByteArray) : Prop where
  next : plN a i = y
  il : i < a.length
  kl : k < a.length
  yl : y < a.length
  ik : i ≠ k
  yk : y ≠ k
  ok : ∃ is', LOk (sL (sN (a.set k ⟨key, y, i⟩) i k) y k) e (m.put key (.int .i64 (k : Nat))) is' ks'
theorem LOk.behindFront {a e m is ks} {k : Nat} {key : ByteArray} (h : LOk a (e ++ [k]) m is ks) (hk : key ∉ ks) : ∃ y, Behind a e m is ks 0 k y key (key :: ks) := by
  obtain ⟨y, S, hS⟩ := cons_of is 0
  have hi := h.insert (l1 := []) (l2 := is) (P := []) (x := 0) hk rfl rfl hS
  have hks : is.map (plK a) = ks := h.key
  rw [List.map_nil, List.nil_append, hks] at hi
  have hnd := h.nd
  have hkl : k < a.length := h.lt k (by simp)
  have hr := h.ring
  rw [hS] at hr
  have hym : y ∈ is ++ [0] := by rw [hS]; simp
  refine ⟨y, hr.1, h.pos, hkl, ?_, ?_, ?_, _, hi⟩
  · rcases List.mem_append.1 hym with hy | hy
    · exact h.lt y (by simp [hy])
    · rw [List.mem_singleton.1 hy]; exact h.pos
  · rintro rfl
    simp at hnd
  · rintro rfl
    rcases List.mem_append.1 hym with hy | hy
    · rw [List.nodup_cons, List.nodup_append] at hnd
      exact hnd.2.2.2 y hy y (by simp) rfl
    · rw [List.mem_singleton.1 hy] at hnd
      simp at hnd
theorem LOk.behindBack {a e m is ks} {k : Nat} {key : ByteArray} (h : LOk a (e ++ [k]) m is ks) (hk : key ∉ ks) : Behind a e m is ks (plL a 0) k 0 key (ks ++ [key]) := by
  obtain ⟨P, x, hP⟩ := snoc_of 0 is
  have hi := h.insert (l1 := is) (l2 := []) (S := []) (y := 0) hk (List.append_nil _).symm hP rfl
  have hks : is.map (plK a) = ks := h.key
  rw [List.map_nil, hks] at hi
  have hnd := h.nd
  have hkl : k < a.length := h.lt k (by simp)
  have hr := h.ring
  rw [← List.cons_append, hP, List.append_assoc, List.singleton_append] at hr
  have h2 := hr.parts.2
  have hx : plL a 0 = x := h2.2.1
  have hxm : x ∈ 0 :: is := by rw [hP]; simp
  rw [hx]
  refine ⟨h2.1, ?_, hkl, h.pos, ?_, ?_, _, hi⟩
  · rcases List.mem_cons.1 hxm with hy | hy
    · rw [hy]; exact h.pos
    · exact h.lt x (by simp [hy])
  · rintro rfl
    rcases List.mem_cons.1 hxm with hy | hy
    · subst hy; simp at hnd
    · rw [List.nodup_cons, List.nodup_append] at hnd
      exact hnd.2.2.2 x hy x (by simp) rfl
  · rintro rfl
    simp at hnd
set_option maxRecDepth 100000 in
set_option maxHeartbeats 2000000 in
theorem List_behind_old {g w : World} {b : Nat} {a : List Plc} {e : List Nat} {m : Assoc} {is : List Nat} {ks ks' : List ByteArray} {va ve : Value} {mb i k y : Nat} {key : ByteArray} {F : List SProp}
    (hB : Behind a e m is ks i k y key ks') (hal : a.length ≤ 1000000) (hel : e.length ≤ 1000000)
    (h : Holds g w (pts b (.cells #[va, ve, .map (some mb)] 240) :: OwnRow 318 3 va a.length (plCells a) :: OwnRow 3 1 ve (e.length + 1) (nInts e ++ [.int .i64 k]) :: OwnMap mb m :: F)) :
    Calls Tryz.prog 224 #[.pointer (some ⟨b, 0, none⟩), .string key, .int .i64 i] w fun r w' => r = .returned (.tuple #[]) ∧ Holds g w' (IsList b ks' :: F) := by
  obtain ⟨n, hn⟩ : ∃ n, a.length = n := ⟨_, rfl⟩
  obtain ⟨ne, hne⟩ : ∃ ne, e.length = ne := ⟨_, rfl⟩
  rw [hn, hne] at h
  rcases h.p1.rowShape with ⟨_, h0, _⟩ | ⟨q, cap, rfl⟩
  · have := hB.il; omega
  rcases h.p2.rowShape with ⟨_, h0, _⟩ | ⟨qe, cape, rfl⟩
  · omega
  have c0 : w.cell? ⟨b, 0, none⟩ = some (.slice (some ⟨q, 0, none⟩) n cap) := h.cell rfl
  have c1 : w.cell? ⟨b, 1, none⟩ = some (.slice (some ⟨qe, 0, none⟩) (ne + 1) cape) := h.cell rfl
  have c1f : w.frozen? ⟨b, 1, none⟩ = false := h.free
  have ce : w.cell? ⟨qe, ne, none⟩ = some (.int .i64 k) := h.p2.rowCell (by rw [List.getElem?_append_right (by simp [nInts, hne])]; simp [nInts, hne])
  have g1 : IntKind.i64.wrap (ne : Int) = (ne : Int) := IntWalk.i64_in _ (by omega)
  have g2 : (0 : Int) < (ne : Int) + 1 := by omega
  have g3 : (ne : Int) < (ne : Int) + 1 := by omega
  have g4 : (ne : Int) ≤ (cape : Nat) := by
    obtain ⟨cur, hc, _⟩ := h.p2.rowPts
    have := hc.le
    omega
  have h := hide h
  have hB := hide hB
  have hne := hide hne
  have hn := hide hn
  go_enter Tryz.func224, Tryz.ntmps224
  go_upto_region 3 with fail
  have HA := (h.out.setCell (off := 1) (v := .slice (some ⟨qe, 0, none⟩) ne cape)).drew.p2.rowTake (m := ne) (by omega)
  have htk : (nInts e ++ [Value.int .i64 (k : Nat)]).take (ne * 1) = nInts e := by rw [List.take_append_of_le_length (by simp [nInts, hne.out]), List.take_of_length_le (by simp [nInts, hne.out])]
  rw [htk] at HA
  have HA := hide HA.p2.p2
  clear htk
  go_cut [6] (fun x wx => x = .int .i64 k ∧ Holds g wx (pts b (.cells #[.slice (some ⟨q, 0, none⟩) n cap, .slice (some ⟨qe, 0, none⟩) ne cape, .map (some mb)] 240) :: OwnRow 318 3 (.slice (some ⟨q, 0, none⟩) n cap) n (plCells a) :: OwnRow 3 1 (.slice (some ⟨qe, 0, none⟩) ne cape) ne (nInts e) :: OwnMap mb m :: F))
  case first =>
    go_region_law (fail)
    all_goals
      go_wp2
      go_meet
      case rel => exact ⟨rfl, HA.out⟩
  case rest =>
    obtain ⟨rfl, hc⟩ := hcut
    clear c0 c1 c1f ce HA h g1 g2 g3 g4
    obtain ⟨is', hok⟩ := hB.out.ok
    have gi := plCells_get a i hB.out.il
    rw [hB.out.next] at gi
    have hil : (i : Int) < n := by have := hB.out.il; have := hn.out; omega
    have hkl : (k : Int) < n := by have := hB.out.kl; have := hn.out; omega
    have hyl : (y : Int) < n := by have := hB.out.yl; have := hn.out; omega
    have hlen : (plCells a).length = n * 3 := by rw [plCells_length, hn.out]
    have gk := plCells_get a k hB.out.kl
    have gy := plCells_get a y hB.out.yl
    have e1 := plCells_set a k ⟨key, y, i⟩ hB.out.kl
    have e2 := plCells_sN (a.set k ⟨key, y, i⟩) i k (by rw [List.length_set]; exact hB.out.il)
    have e3 := plCells_sL (sN (a.set k ⟨key, y, i⟩) i k) y k (by rw [sN_length, List.length_set]; exact hB.out.yl)
    rw [e2, e1] at e3
    have c0 : wc.cell? ⟨b, 0, none⟩ = some (.slice (some ⟨q, 0, none⟩) n cap) := hc.cell rfl
    have HR := hc.p1
    have i1 := HR.rowCell gi.2.1
    have k0 := HR.rowCell gk.1
    have k1 := HR.rowCell gk.2.1
    have k2 := HR.rowCell gk.2.2
    have k0f := HR.rowFree (j := k * 3)
    have k1f := HR.rowFree (j := k * 3 + 1)
    have k2f := HR.rowFree (j := k * 3 + 2)
    have HS := hide (((HR.rowSet (k * 3) (.string key)).rowSet (k * 3 + 1) (.int .i64 (y : Nat))).rowSet (k * 3 + 2) (.int .i64 (i : Nat)))
    have gi1 : ((((plCells a).set (k * 3) (.string key)).set (k * 3 + 1) (.int .i64 (y : Nat))).set (k * 3 + 2) (.int .i64 (i : Nat)))[i * 3 + 1]? = some (.int .i64 (y : Nat)) := by
      have := hB.out.ik
      rw [List.getElem?_set_ne (by omega), List.getElem?_set_ne (by omega), List.getElem?_set_ne (by omega)]
      exact gi.2.1
    have gy2 : (((((plCells a).set (k * 3) (.string key)).set (k * 3 + 1) (.int .i64 (y : Nat))).set (k * 3 + 2) (.int .i64 (i : Nat))).set (i * 3 + 1) (.int .i64 (k : Nat)))[y * 3 + 2]? = some (.int .i64 (plL a y : Nat)) := by
      have := hB.out.yk
      rw [List.getElem?_set_ne (by omega), List.getElem?_set_ne (by omega), List.getElem?_set_ne (by omega), List.getElem?_set_ne (by omega)]
      exact gy.2.2
    have gi1 := hide gi1
    have gy2 := hide gy2
    have e3 := hide e3
    have hok := hide hok
    clear gi gk gy e1 e2 HR hlen hc
    go_upto_region 7 with fail
    clear c0 i1 k0 k1 k2 k0f k1f k2f
    generalize ((wc.setCell ⟨q, k * 3, none⟩ (.string key)).setCell ⟨q, k * 3 + 1, none⟩ (.int .i64 (y : Nat))).setCell ⟨q, k * 3 + 2, none⟩ (.int .i64 (i : Nat)) = w1 at HS ⊢
    have c0 : w1.cell? ⟨b, 0, none⟩ = some (.slice (some ⟨q, 0, none⟩) n cap) := HS.out.p1.cell rfl
    have i1 := HS.out.rowCell gi1.out
    have i1f := HS.out.rowFree (j := i * 3 + 1)
    have HT := hide (HS.out.rowSet (i * 3 + 1) (.int .i64 (k : Nat)))
    have y2 := HT.out.rowCell gy2.out
    have y2f := HT.out.rowFree (j := y * 3 + 2)
    have HU := hide (HT.out.rowSet (y * 3 + 2) (.int .i64 (k : Nat))).drew
    have nqb : ¬ q = b := by
      obtain ⟨cur, _, hh⟩ := HS.out.rowPts
      exact hh.ne
    go_region_held3 (fun w' => w'.cell? ⟨b, 0, none⟩ = some (.slice (some ⟨q, 0, none⟩) n cap)) (go_keep) (fail)
    all_goals
      clear c0 i1 i1f y2 y2f
      generalize ((w1.setCell ⟨q, i * 3 + 1, none⟩ (.int .i64 (k : Nat))).setCell ⟨q, y * 3 + 2, none⟩ (.int .i64 (k : Nat))).drew = w2 at HU ⊢
      have c2 : w2.cell? ⟨b, 2, none⟩ = some (.map (some mb)) := HU.out.p1.cell rfl
      obtain ⟨w5, hup, H5⟩ := HU.out.p3.updateMap (P := Tryz.prog) (t := 148) Tryz.underlying148 Tryz.underlying9 key (.int .i64 (k : Nat))
      have H5 := hide H5
      go_wp2
      go_end0
      refine ⟨rfl, Holds.toList (va := .slice (some ⟨q, 0, none⟩) n cap) (ve := .slice (some ⟨qe, 0, none⟩) ne cape) (mb := mb) hok.out ?_ ?_⟩
      · rw [sL_length, sN_length, List.length_set]; exact hal
      · rw [e3.out, sL_length, sN_length, List.length_set, hn.out, hne.out]
        exact H5.out.p3.p2.p3
set_option maxRecDepth 100000 in
set_option maxHeartbeats 2000000 in
theorem List_behind_new {g w : World} {b : Nat} {a0 : List Plc} {m : Assoc} {is : List Nat} {ks ks' : List ByteArray} {va ve : Value} {mb i y : Nat} {key : ByteArray} {F : List SProp}
    (hB : Behind (a0 ++ [plc0]) [] m is ks i a0.length y key ks') (hal0 : a0.length < 1000000)
    (h : Holds g w (pts b (.cells #[va, ve, .map (some mb)] 240) :: OwnRow 318 3 va a0.length (plCells a0) :: OwnRow 3 1 ve 0 [] :: OwnMap mb m :: F)) :
    Calls Tryz.prog 224 #[.pointer (some ⟨b, 0, none⟩), .string key, .int .i64 i] w fun r w' => r = .returned (.tuple #[]) ∧ Holds g w' (IsList b ks' :: F) := by
  obtain ⟨a, ha⟩ : ∃ a, a0 ++ [plc0] = a := ⟨_, rfl⟩
  obtain ⟨k, hk⟩ : ∃ k, a0.length = k := ⟨_, rfl⟩
  obtain ⟨n, hn⟩ : ∃ n, a.length = n := ⟨_, rfl⟩
  obtain ⟨e, he⟩ : ∃ e : List Nat, [] = e := ⟨_, rfl⟩
  obtain ⟨ne, hne⟩ : ∃ ne, e.length = ne := ⟨_, rfl⟩
  have hnk : Hide (n = k + 1) := ⟨by rw [← hn, ← ha, List.length_append, hk]; rfl⟩
  have hpc : Hide (plCells a = plCells a0 ++ [.string ⟨#[]⟩, .int .i64 0, .int .i64 0]) := ⟨by rw [← ha]; exact plCells_push a0⟩
  have hni : Hide (nInts e = []) := ⟨by rw [← he]; rfl⟩
  have hn0 : Hide (ne = 0) := ⟨by rw [← hne, ← he]; rfl⟩
  have hal : n ≤ 1000000 := by have := hnk.out; omega
  rw [ha, hk, he] at hB
  rw [hk] at h
  obtain ⟨ao0, cap0, rfl⟩ := rowForm h.p1.ownsRow
  obtain ⟨aoe, cape, rfl⟩ := rowForm h.p2.ownsRow
  have c0 : w.cell? ⟨b, 0, none⟩ = some (.slice ao0 k cap0) := h.cell rfl
  have c1 : w.cell? ⟨b, 1, none⟩ = some (.slice aoe 0 cape) := h.cell rfl
  have h := hide h
  have hB := hide hB
  have hne := hide hne
  have hn := hide hn
  have hkl := hide (show k < 1000000 by omega)
  obtain ⟨ii, hi, hz0, hz1, hz2⟩ := info_parts infoPlace
  have hi := hide hi
  have hz0 := hide hz0
  have hz1 := hide hz1
  have hz2 := hide hz2
  have H12 := hide (h.out.alloc' (o := .cells #[.string ⟨#[]⟩, .int .i64 0, .int .i64 0] 318)).p1
  clear hk ha he hal0
  go_enter Tryz.func224, Tryz.ntmps224
  go_upto_region 5 with (at_builtin; refine wpList_append_own_at _ rfl _ _ 237 rfl g.heap.size 318 ii (.agg #[.string ⟨#[]⟩, .int .i64 0, .int .i64 0]) 3 32 Tryz.underlying237 hi.out hz0.out hz1.out hz2.out rfl (by decide) _ k (plCells a0) rfl H12.out.ownsRow _ 1 _ [.string ⟨#[]⟩, .int .i64 0, .int .i64 0] rfl rfl (newCells3 _ _ _ _ _ _ (by simp)) (by simp [Value.oneCell']) (by simp only [maxLen]; have := hkl.out; omega) (by have := hkl.out; omega) H12.out.size ?_; intro vn wn o1 g1 _ hb1; obtain ⟨ao2, cap2, rfl⟩ := rowForm o1; have H13 := hide (H12.out.grown o1 g1 (by rcases hb1 with hb1 | hb1 <;> first | exact .inl hb1 | exact .inr ⟨_, hb1, Nat.le_refl _⟩)).p1; have y9 := Holds.free (off := 0) H13.out; have p9 := Holds.cell (off := 0) H13.out rfl; have H14 := hide (H13.out.setCell (off := 0) (v := .slice ao2 (k + 1) cap2)); clear o1 g1 hb1)
  · clear c0 c1 H12 h
    rw [← hnk.out] at H14 ⊢
    generalize wn.setCell ⟨b, 0, none⟩ (.slice ao2 n cap2) = wc at H14 ⊢
    rcases H14.out.p1.rowShape with ⟨_, h0, _⟩ | ⟨q, cap, hsl⟩
    · have := hnk.out; omega
    have hao : ao2 = some ⟨q, 0, none⟩ := by cases hsl; rfl
    clear hsl cap
    subst hao
    obtain ⟨cap, hcap⟩ : ∃ cap, cap2 = cap := ⟨_, rfl⟩
    rw [hcap] at H14 ⊢
    clear hcap
    have hc : Holds g wc (pts b (.cells #[.slice (some ⟨q, 0, none⟩) n cap, .slice aoe 0 cape, .map (some mb)] 240) :: OwnRow 318 3 (.slice (some ⟨q, 0, none⟩) n cap) n (plCells a) :: OwnRow 3 1 (.slice aoe 0 cape) ne (nInts e) :: OwnMap mb m :: F) := by
      rw [hpc.out, hni.out, hn0.out]; exact H14.out
    have hal : a.length ≤ 1000000 := by rw [hn.out]; exact hal
    clear H14 H13 y9 p9
    obtain ⟨is', hok⟩ := hB.out.ok
    have gi := plCells_get a i hB.out.il
    rw [hB.out.next] at gi
    have hil : (i : Int) < n := by have := hB.out.il; have := hn.out; omega
    have hkl : (k : Int) < n := by have := hB.out.kl; have := hn.out; omega
    have hyl : (y : Int) < n := by have := hB.out.yl; have := hn.out; omega
    have hlen : (plCells a).length = n * 3 := by rw [plCells_length, hn.out]
    have gk := plCells_get a k hB.out.kl
    have gy := plCells_get a y hB.out.yl
    have e1 := plCells_set a k ⟨key, y, i⟩ hB.out.kl
    have e2 := plCells_sN (a.set k ⟨key, y, i⟩) i k (by rw [List.length_set]; exact hB.out.il)
    have e3 := plCells_sL (sN (a.set k ⟨key, y, i⟩) i k) y k (by rw [sN_length, List.length_set]; exact hB.out.yl)
    rw [e2, e1] at e3
    have c0 : wc.cell? ⟨b, 0, none⟩ = some (.slice (some ⟨q, 0, none⟩) n cap) := hc.cell rfl
    have HR := hc.p1
    have i1 := HR.rowCell gi.2.1
    have k0 := HR.rowCell gk.1
    have k1 := HR.rowCell gk.2.1
    have k2 := HR.rowCell gk.2.2
    have k0f := HR.rowFree (j := k * 3)
    have k1f := HR.rowFree (j := k * 3 + 1)
    have k2f := HR.rowFree (j := k * 3 + 2)
    have HS := hide (((HR.rowSet (k * 3) (.string key)).rowSet (k * 3 + 1) (.int .i64 (y : Nat))).rowSet (k * 3 + 2) (.int .i64 (i : Nat)))
    have gi1 : ((((plCells a).set (k * 3) (.string key)).set (k * 3 + 1) (.int .i64 (y : Nat))).set (k * 3 + 2) (.int .i64 (i : Nat)))[i * 3 + 1]? = some (.int .i64 (y : Nat)) := by
      have := hB.out.ik
      rw [List.getElem?_set_ne (by omega), List.getElem?_set_ne (by omega), List.getElem?_set_ne (by omega)]
      exact gi.2.1
    have gy2 : (((((plCells a).set (k * 3) (.string key)).set (k * 3 + 1) (.int .i64 (y : Nat))).set (k * 3 + 2) (.int .i64 (i : Nat))).set (i * 3 + 1) (.int .i64 (k : Nat)))[y * 3 + 2]? = some (.int .i64 (plL a y : Nat)) := by
      have := hB.out.yk
      rw [List.getElem?_set_ne (by omega), List.getElem?_set_ne (by omega), List.getElem?_set_ne (by omega), List.getElem?_set_ne (by omega)]
      exact gy.2.2
    have gi1 := hide gi1
    have gy2 := hide gy2
    have e3 := hide e3
    have hok := hide hok
    clear gi gk gy e1 e2 HR hlen hc
    go_upto_region 7 with fail
    clear c0 i1 k0 k1 k2 k0f k1f k2f
    generalize ((wc.setCell ⟨q, k * 3, none⟩ (.string key)).setCell ⟨q, k * 3 + 1, none⟩ (.int .i64 (y : Nat))).setCell ⟨q, k * 3 + 2, none⟩ (.int .i64 (i : Nat)) = w1 at HS ⊢
    have c0 : w1.cell? ⟨b, 0, none⟩ = some (.slice (some ⟨q, 0, none⟩) n cap) := HS.out.p1.cell rfl
    have i1 := HS.out.rowCell gi1.out
    have i1f := HS.out.rowFree (j := i * 3 + 1)
    have HT := hide (HS.out.rowSet (i * 3 + 1) (.int .i64 (k : Nat)))
    have y2 := HT.out.rowCell gy2.out
    have y2f := HT.out.rowFree (j := y * 3 + 2)
    have HU := hide (HT.out.rowSet (y * 3 + 2) (.int .i64 (k : Nat))).drew
    have nqb : ¬ q = b := by
      obtain ⟨cur, _, hh⟩ := HS.out.rowPts
      exact hh.ne
    go_region_held3 (fun w' => w'.cell? ⟨b, 0, none⟩ = some (.slice (some ⟨q, 0, none⟩) n cap)) (go_keep) (fail)
    all_goals
      clear c0 i1 i1f y2 y2f
      generalize ((w1.setCell ⟨q, i * 3 + 1, none⟩ (.int .i64 (k : Nat))).setCell ⟨q, y * 3 + 2, none⟩ (.int .i64 (k : Nat))).drew = w2 at HU ⊢
      have c2 : w2.cell? ⟨b, 2, none⟩ = some (.map (some mb)) := HU.out.p1.cell rfl
      obtain ⟨w5, hup, H5⟩ := HU.out.p3.updateMap (P := Tryz.prog) (t := 148) Tryz.underlying148 Tryz.underlying9 key (.int .i64 (k : Nat))
      have H5 := hide H5
      go_wp2
      go_end0
      refine ⟨rfl, Holds.toList (va := .slice (some ⟨q, 0, none⟩) n cap) (ve := .slice aoe 0 cape) (mb := mb) hok.out ?_ ?_⟩
      · rw [sL_length, sN_length, List.length_set]; exact hal
      · rw [e3.out, sL_length, sN_length, List.length_set, hn.out, hne.out]
        exact H5.out.p3.p2.p3
theorem List_behindFront {g w : World} {b : Nat} {ks : List ByteArray} {F : List SProp} (h : Holds g w (IsList b ks :: F)) (k : ByteArray) (hk : k ∉ ks) (hl : ks.length < 900000) :
    Calls Tryz.prog 224 #[.pointer (some ⟨b, 0, none⟩), .string k, .int .i64 0] w fun r w' => r = .returned (.tuple #[]) ∧ Holds g w' (IsList b (k :: ks) :: F) := by
  obtain ⟨a, e, m, is, va, ve, mb, hok, hal, h⟩ := h.isList
  rcases List.eq_nil_or_concat e with rfl | ⟨e', j, rfl⟩
  · obtain ⟨y, hB⟩ := hok.push.behindFront (e := []) hk
    have hlen := hok.len
    rw [← hok.klen] at hlen
    exact List_behind_new (i := 0) hB (by simp at hlen; omega) h
  · rw [List.concat_eq_append] at hok h
    obtain ⟨y, hB⟩ := hok.behindFront hk
    have hlen := hok.len
    rw [List.length_append, List.length_singleton] at h hlen
    rw [show nInts (e' ++ [j]) = nInts e' ++ [.int .i64 (j : Nat)] from List.map_append] at h
    exact List_behind_old (i := 0) hB hal (by omega) h
set_option maxRecDepth 100000 in
theorem List_Front {g w : World} {b : Nat} {ks : List ByteArray} {F : List SProp} (h : Holds g w (IsList b ks :: F)) (k : ByteArray) (hl : ks.length < 900000) :
    Calls Tryz.prog 163 #[.pointer (some ⟨b, 0, none⟩), .string k] w fun r w' => r = .returned (.tuple #[]) ∧ Holds g w' (IsList b (kFront ks k) :: F) := by
  have h := hide h
  have hlk := hide (show (kDel ks k).length < 900000 from Nat.lt_of_le_of_lt (List.length_filter_le _ _) hl)
  have hkn := hide (show k ∉ kDel ks k from fun hm => (kDel_mem.1 hm).2 rfl)
  clear hl
  obtain ⟨d, hd⟩ : ∃ d, decide (k ∈ ks) = d := ⟨_, rfl⟩
  have hd := hide hd
  go_enter Tryz.func163, Tryz.ntmps163
  go_wp2_with (first
    | (go_at_call 164; (with_reducible refine (List_Remove h.out k d hd.out).mono ?_); rintro r w1 ⟨rfl, h1⟩; have h1 := hide h1)
    | (go_at_call 224; (with_reducible refine (List_behindFront h1.out k hkn.out hlk.out).mono ?_); rintro r w2 ⟨rfl, h2⟩; have h2 := hide h2))
  go_end0
  exact ⟨rfl, h2.out⟩
end Go.Proofs.YtbbdimlpofjlfaaGreatDoor
/- A list of keys: Last, Pop, Keys. -/
namespace Go.Proofs.YtbbdimlpofjlfaaGreatDoor
open Go Go.RowKit

set_option maxRecDepth 100000 in
theorem List_Last {g w : World} {b : Nat} {ks : List ByteArray} {F : List SProp} (h : Holds g w (IsList b ks :: F)) (x : ByteArray) (hx : kLast ks = x) (d : Bool) (hd : (!ks.isEmpty) = d) :
    Calls Tryz.prog 165 #[.pointer (some ⟨b, 0, none⟩)] w fun r w' => r = .returned (.tuple #[.string x, .bool d]) ∧ Keep w w' := by
  obtain ⟨n, hn⟩ : ∃ n, ks.length = n := ⟨_, rfl⟩
  have cL := hide (fun w' (k : Keep w w') => List_Len (h.keep k) n hn)
  have hdn : Hide (decide (0 < n) = d) := ⟨by
    rw [← hd, ← hn]
    cases ks with
    | nil => rfl
    | cons y ks => rw [decide_eq_true (by simp)]; rfl⟩
  obtain ⟨a, e, m, is, va, ve, mb, hok, hal, h⟩ := h.isList
  obtain ⟨_, he2, _, he4⟩ := hok.ends
  rw [hx] at he2
  obtain ⟨l, hl⟩ : ∃ l, plL a 0 = l := ⟨_, rfl⟩
  rw [hl] at he2 he4
  obtain ⟨na, hna⟩ : ∃ na, a.length = na := ⟨_, rfl⟩
  have hp := hok.pos
  have g0 := (plCells_get a 0 hp).2.2
  have gl := (plCells_get a l he4).1
  rw [hl] at g0
  rw [he2] at gl
  rw [hna] at h he4 hp
  rcases h.p1.rowShape with ⟨_, h0, _⟩ | ⟨q, cap, rfl⟩
  · omega
  have c0 : w.cell? ⟨b, 0, none⟩ = some (.slice (some ⟨q, 0, none⟩) na cap) := h.cell rfl
  have z2 : w.cell? ⟨q, 2, none⟩ = some (.int .i64 l) := h.p1.rowCell (j := 2) g0
  have zl := h.p1.rowCell gl
  have hll : (l : Int) < na := by omega
  have hpp : 0 < na := hp
  have st := hide (fun w' (k : Keep w w') => And.intro (k.cell c0) (And.intro (k.cell z2) (k.cell zl)))
  have kq := hide (Keep.refl w).drew
  clear h hok hx hd hn g0 gl hl he2 he4 hp hna hal c0 z2 zl
  go_enter Tryz.func165, Tryz.ntmps165
  go_wp2
  go_region_held3 (fun w' => w'.cell? ⟨b, 0, none⟩ = some (.slice (some ⟨q, 0, none⟩) na cap) ∧ w'.cell? ⟨q, 2, none⟩ = some (.int .i64 l) ∧ w'.cell? ⟨q, l * 3, none⟩ = some (.string x)) (exact st.out _ kq.out)
    ((go_at_call 161; (with_reducible refine (cL.out _ kq.out).mono ?_); rintro r wn ⟨rfl, rfl⟩))
  all_goals
    go_wp2
    go_ret2
    exact ⟨congrArg (fun z => Ending.returned (.tuple #[.string x, .bool z])) hdn.out, kq.out⟩
theorem kLast_mem {ks : List ByteArray} (h : ks ≠ []) : kLast ks ∈ ks := by
  unfold kLast
  rw [List.getLast?_eq_some_getLast h]
  exact List.getLast_mem h
theorem kDel_last {ks : List ByteArray} (h : ks ≠ []) (hn : ks.Nodup) : kDel ks (kLast ks) = ks.dropLast := by
  rcases List.eq_nil_or_concat ks with rfl | ⟨l, z, rfl⟩
  · exact absurd rfl h
  · rw [List.concat_eq_append] at hn ⊢
    have hk : kLast (l ++ [z]) = z := by unfold kLast; simp
    rw [hk, List.dropLast_concat]
    have := kDel_mid (l1 := l) (l2 := []) (k := z) hn
    simpa using this
theorem Holds.listNodup {g w : World} {b : Nat} {ks : List ByteArray} {F : List SProp} (h : Holds g w (IsList b ks :: F)) : ks.Nodup := by
  obtain ⟨a, e, m, is, va, ve, mb, hok, _, _⟩ := h.isList
  exact hok.knd
set_option maxRecDepth 100000 in
theorem List_Pop {g w : World} {b : Nat} {ks : List ByteArray} {F : List SProp} (h : Holds g w (IsList b ks :: F)) (x : ByteArray) (hx : kLast ks = x) (d : Bool) (hd : (!ks.isEmpty) = d) :
    Calls Tryz.prog 162 #[.pointer (some ⟨b, 0, none⟩)] w fun r w' => r = .returned (.tuple #[.string x, .bool d]) ∧ Holds g w' (IsList b ks.dropLast :: F) := by
  have hnd := h.listNodup
  have cL := hide (List_Last h x hx d hd)
  have h := hide h
  cases d with
  | false =>
    have he : ks = [] := by simpa using hd
    subst he
    clear hd hx hnd
    go_enter Tryz.func162, Tryz.ntmps162
    go_wp2_with (go_at_call 165; (with_reducible refine cL.out.mono ?_); rintro r w1 ⟨rfl, k1⟩; have k1 := hide k1)
    go_ret2
    exact ⟨rfl, h.out.keep k1.out⟩
  | true =>
    have he : ks ≠ [] := by
      rintro rfl
      simp at hd
    have hdl := kDel_last he hnd
    have hm := kLast_mem he
    rw [hx] at hdl hm
    have cR := hide (fun w' (k : Keep w w') => List_Remove (h.out.keep k) x true (decide_eq_true hm))
    rw [hdl] at cR
    clear hd hx hnd he hdl hm
    go_enter Tryz.func162, Tryz.ntmps162
    go_wp2_with (first
      | (go_at_call 165; (with_reducible refine cL.out.mono ?_); rintro r w1 ⟨rfl, k1⟩; have k1 := hide k1)
      | (go_at_call 164; (with_reducible refine (cR.out _ k1.out).mono ?_); rintro r w2 ⟨rfl, h2⟩; have h2 := hide h2))
    go_ret2
    exact ⟨rfl, h2.out⟩
theorem infoStr : (Tryz.prog.info? 9).map (fun i => (i.zero, i.size, i.bytes)) = some (some (.string ⟨#[]⟩), 1, 16) := by kernel_rfl
def strs (l : List ByteArray) : List Value := l.map Value.string
/-- The call owns the slice v of keys. -/
def OwnStrs (v : Value) (l : List ByteArray) : SProp := OwnRow 9 1 v l.length (strs l)
set_option maxRecDepth 100000 in
set_option maxHeartbeats 2000000 in
theorem List_Keys {g w : World} {b : Nat} {ks : List ByteArray} {F : List SProp} (h : Holds g w (IsList b ks :: F)) :
    Calls Tryz.prog 167 #[.pointer (some ⟨b, 0, none⟩)] w fun r w' => ∃ v, r = .returned v ∧ Holds g w' (OwnStrs v ks :: IsList b ks :: F) := by
  obtain ⟨a, e, m, is, va, ve, mb, hok, hal, h⟩ := h.isList
  obtain ⟨na, hna⟩ : ∃ na, a.length = na := ⟨_, rfl⟩
  have hp := hok.pos
  rw [hna] at h hp hal
  rcases h.p1.rowShape with ⟨_, h0, _⟩ | ⟨q, cap, rfl⟩
  · omega
  have hil : is.length ≤ 1000000 := by have := hok.len; omega
  obtain ⟨y0, S0, hS0⟩ := cons_of is 0
  have hy0 : plN a 0 = y0 := by
    have hr := hok.ring
    rw [hS0] at hr
    exact hr.1
  have g0 := (plCells_get a 0 (by rw [hna]; exact hp)).2.1
  rw [hy0] at g0
  have c0 : w.cell? ⟨b, 0, none⟩ = some (.slice (some ⟨q, 0, none⟩) na cap) := h.cell rfl
  have z1 : w.cell? ⟨q, 1, none⟩ = some (.int .i64 y0) := h.p1.rowCell (j := 1) g0
  have hpp : 0 < na := hp
  have h := hide h
  have hok := hide hok
  have hS0 := hide hS0
  have hil := hide hil
  have hal := hide hal
  have hna' := hide hna
  clear hna hy0 g0 hp
  obtain ⟨ii, hi, hz0, hz1, hz2⟩ := info_parts infoStr
  have hi := hide hi
  have hz0 := hide hz0
  have hz1 := hide hz1
  have hz2 := hide hz2
  go_enter Tryz.func167, Tryz.ntmps167
  go_wp2
  go_loopg [3, 4] (is.length) (fun k o i wr => ∃ l1 l2 y S v, Hide (is = l1 ++ l2) ∧ Hide (l2 ++ [0] = y :: S) ∧ Hide (l2.length = k) ∧ o = v ∧ i = .int .i64 (y : Nat) ∧ Holds g wr (OwnRow 9 1 v l1.length (strs (l1.map (plK a))) :: pts b (.cells #[.slice (some ⟨q, 0, none⟩) na cap, ve, .map (some mb)] 240) :: OwnRow 318 3 (.slice (some ⟨q, 0, none⟩) na cap) na (plCells a) :: OwnRow 3 1 ve e.length (nInts e) :: OwnMap mb m :: F))
  case atStart => exact ⟨[], is, y0, S0, _, ⟨rfl⟩, hS0, ⟨rfl⟩, rfl, rfl, h.out.ownNil _ _⟩
  case round =>
    obtain ⟨l1, l2, y, S, v, his, hS, hk, ho, rfl, hh⟩ := hrel
    obtain ⟨ao, cap1, hv⟩ := rowForm hh.ownsRow
    subst hv
    subst ho
    have H := hide hh
    clear hh c0 z1
    have c0 : wr.cell? ⟨b, 0, none⟩ = some (.slice (some ⟨q, 0, none⟩) na cap) := H.out.p1.cell rfl
    cases l2 with
    | nil =>
      obtain rfl : 0 = y := by have := hS.out; simp at this; exact this.1
      have hks : Hide (l1.map (plK a) = ks) := ⟨by rw [← hok.out.key, his.out, List.append_nil]⟩
      have hll : Hide (l1.length = ks.length) := ⟨by rw [← hks.out, List.length_map]⟩
      go_wp2
      go_ret
      refine ⟨_, rfl, ?_⟩
      have H2 := H.out
      rw [hks.out, hll.out] at H2
      simp only [hll.out]
      have H3 : Holds g wr (IsList b ks :: OwnRow 9 1 (.slice ao ks.length cap1) ks.length (strs ks) :: F) := Holds.toList hok.out (by rw [hna'.out]; exact hal.out) (by
        rw [hna'.out]
        exact H2.p4.p4.p4.p4)
      exact H3.p1
    | cons y' l2 =>
      obtain rfl : y' = y := by have := hS.out; simp at this; exact this.1
      obtain ⟨y2, S2, hS2⟩ := cons_of l2 0
      have hyis : y' ∈ is := by rw [his.out]; simp
      have hyl := hok.out.lt y' (by simp [hyis])
      have hy0 : y' ≠ 0 := fun hc => by
        have := hok.out.nd
        rw [List.nodup_cons] at this
        exact this.1 (by rw [← hc]; simp [hyis])
      have hn2 : plN a y' = y2 := by
        have hr := hok.out.ring
        rw [his.out, List.append_assoc, List.cons_append, hS2, ← List.cons_append] at hr
        exact hr.parts.2.1
      have gy := plCells_get a y' hyl
      rw [hn2] at gy
      have k0 := H.out.p2.rowCell gy.1
      have k1 := H.out.p2.rowCell gy.2.1
      rw [hna'.out] at hyl
      have hylt : (y' : Int) < na := by omega
      have hne : ((y' : Int) != 0) = true := by rw [bne_iff_ne]; omega
      have hl1 := hide (show l1.length ≤ 1000000 by have := hil.out; rw [his.out, List.length_append] at this; omega)
      have gy1 := hide gy.2.1
      have hS2 := hide hS2
      have his2 : Hide (is = (l1 ++ [y']) ++ l2) := ⟨by rw [his.out]; simp⟩
      have H12 := hide (H.out.alloc' (o := .cells #[.string (plK a y')] 9))
      clear hyis hyl hy0 hn2 gy
      go_wp2_with (at_builtin; refine wpList_append_own_at _ rfl _ _ 23 rfl g.heap.size 9 ii (.string ⟨#[]⟩) 1 16 Tryz.underlying23 hi.out hz0.out hz1.out hz2.out rfl (by decide) _ l1.length (strs (l1.map (plK a))) rfl H12.out.ownsRow _ 1 _ [.string (plK a y')] rfl rfl (newCells1 _ _ _ _ (by simp)) (by simp [Value.oneCell']) (by simp only [maxLen]; have := hl1.out; omega) (by have := hl1.out; omega) H12.out.size ?_; intro vn wn o1 g1 _ hb1; have H13 := hide (H12.out.grown o1 g1 (by rcases hb1 with hb1 | hb1 <;> first | exact .inl hb1 | exact .inr ⟨_, hb1, Nat.le_refl _⟩)); have d0 := Holds.cell (off := 0) (v := .slice (some ⟨q, 0, none⟩) na cap) H13.out.p1 rfl; have d1 := H13.out.p2.rowCell gy1.out; clear o1 g1 hb1)
      go_roundg l2.length
      case measure => rw [← hk.out]; exact Nat.lt_succ_self _
      case rel => exact ⟨l1 ++ [y'], l2, y2, S2, _, his2, hS2, ⟨rfl⟩, rfl, rfl, by rw [List.length_append, List.map_append, show strs (l1.map (plK a) ++ [y'].map (plK a)) = strs (l1.map (plK a)) ++ [.string (plK a y')] from List.map_append]; exact H13.out⟩
end Go.Proofs.YtbbdimlpofjlfaaGreatDoor
/- slices.Reverse of keys. -/
namespace Go.Proofs.YtbbdimlpofjlfaaGreatDoor
open Go Go.RowKit

/-- So many have changed their places from both ends. -/
structure RevK (l : List ByteArray) (k : Nat) (m : List ByteArray) : Prop where
  len : m.length = l.length
  get : ∀ i, i < l.length → m[i]? = if i < k ∨ l.length ≤ i + k then l[l.length - 1 - i]? else l[i]?
theorem RevK.zero (l : List ByteArray) : RevK l 0 l := ⟨rfl, fun i hi => by rw [if_neg (by omega)]⟩
theorem RevK.done {l m : List ByteArray} {k : Nat} (h : RevK l k m) (hk : l.length ≤ 2 * k + 1) : m = l.reverse := by
  refine List.ext_getElem? fun i => ?_
  by_cases hi : i < l.length
  · rw [h.get i hi, List.getElem?_reverse hi]
    split
    · rfl
    · congr 1; omega
  · rw [List.getElem?_eq_none (by rw [h.len]; omega), List.getElem?_eq_none (by rw [List.length_reverse]; omega)]
theorem RevK.step {l m : List ByteArray} {k : Nat} {x y : ByteArray} (h : RevK l k m) (hk : 2 * k + 1 < l.length) (hx : m[k]? = some x) (hy : m[l.length - 1 - k]? = some y) : RevK l (k + 1) ((m.set k y).set (l.length - 1 - k) x) := by
  refine ⟨by rw [List.length_set, List.length_set]; exact h.len, fun i hi => ?_⟩
  have hml := h.len
  have e1 := h.get k (by omega)
  rw [if_neg (by omega)] at e1
  have e2 := h.get (l.length - 1 - k) (by omega)
  rw [if_neg (by omega)] at e2
  by_cases h1 : i = l.length - 1 - k
  · subst h1
    rw [List.getElem?_set_self (by rw [List.length_set]; omega), if_pos (by omega), ← hx, e1]
    congr 1; omega
  · rw [List.getElem?_set_ne (Ne.symm h1)]
    by_cases h2 : i = k
    · subst h2
      rw [List.getElem?_set_self (by omega), if_pos (by omega), ← hy, e2]
    · rw [List.getElem?_set_ne (Ne.symm h2), h.get i hi]
      by_cases h3 : i < k ∨ l.length ≤ i + k
      · rw [if_pos h3, if_pos (by omega)]
      · rw [if_neg h3, if_neg (by omega)]
theorem strs_get {m : List ByteArray} {i : Nat} {x : ByteArray} (h : m[i]? = some x) : (strs m)[i]? = some (.string x) := by unfold strs; rw [List.getElem?_map, h]; rfl
set_option maxRecDepth 100000 in
set_option maxHeartbeats 2000000 in
theorem Rev_strs {g w : World} {v : Value} {l : List ByteArray} {F : List SProp} (h : Holds g w (OwnStrs v l :: F)) (hl : l.length ≤ 1000000) :
    Calls Tryz.prog 168 #[v] w fun r w' => r = .returned (.tuple #[]) ∧ Holds g w' (OwnStrs v l.reverse :: F) := by
  unfold OwnStrs at h ⊢
  obtain ⟨ao, cap, rfl⟩ := rowForm h.ownsRow
  obtain ⟨n, hn⟩ : ∃ n, l.length = n := ⟨_, rfl⟩
  rw [List.length_reverse]
  rw [hn] at h hl ⊢
  have h := hide h
  have f1 : IntKind.i64.wrap ((n : Int) - 1) = (n : Int) - 1 := IntWalk.i64_in _ (by omega)
  have hl := hide hl
  have hn' := hide hn
  clear hn
  go_enter Tryz.func168, Tryz.ntmps168
  go_wp2
  go_loopg [2, 3] (n) (fun c a b wr => ∃ k m, Hide (n - k = c) ∧ Hide (RevK l k m) ∧ k ≤ n ∧ a = .int .i64 (k : Nat) ∧ b = .int .i64 ((n : Int) - 1 - (k : Nat)) ∧ Holds g wr (OwnRow 9 1 (.slice ao n cap) n (strs m) :: F))
  case atStart => exact ⟨0, l, ⟨rfl⟩, ⟨RevK.zero l⟩, Nat.zero_le _, rfl, by simp, h.out⟩
  case round =>
    obtain ⟨k, m, hc, hR, hk, rfl, rfl, hh⟩ := hrel
    have H := hide hh
    clear hh
    by_cases hlt : 2 * k + 1 < n
    · have hlt' : (k : Int) < (n : Int) - 1 - k := by omega
      rcases H.out.rowShape with ⟨_, h0, _⟩ | ⟨q, cap1, hs⟩
      · omega
      have hao : ao = some ⟨q, 0, none⟩ := by cases hs; rfl
      clear hs
      subst hao
      obtain ⟨j, hj⟩ : ∃ j, n - 1 - k = j := ⟨_, rfl⟩
      have hjI : (n : Int) - 1 - k = (j : Int) := by omega
      obtain ⟨x, hx⟩ : ∃ x, m[k]? = some x := ⟨_, List.getElem?_eq_getElem (by rw [hR.out.len, hn'.out]; omega)⟩
      obtain ⟨y, hy⟩ : ∃ y, m[j]? = some y := ⟨_, List.getElem?_eq_getElem (by rw [hR.out.len, hn'.out]; omega)⟩
      have hst := hR.out.step (by rw [hn'.out]; exact hlt) hx (by rw [hn'.out, hj]; exact hy)
      rw [hn'.out, hj] at hst
      have k0 := H.out.rowCell (strs_get hx)
      have j0 := H.out.rowCell (strs_get hy)
      have k0f := H.out.rowFree (j := k)
      have j0f := H.out.rowFree (j := j)
      have hkn : (k : Int) < n := by omega
      have hjn : (j : Int) < n := by omega
      have hkj : (k : Int) < j := by omega
      have HS := hide ((H.out.rowSet k (.string y)).rowSet j (.string x))
      have e1 : Hide (((strs m).set k (.string y)).set j (.string x) = strs ((m.set k y).set j x)) := ⟨by unfold strs; rw [List.map_set, List.map_set]⟩
      have j1 : (wr.setCell ⟨q, k, none⟩ (.string y)).cell? ⟨q, j, none⟩ = some (.string x) ∨ True := .inr trivial
      have j2 := (H.out.rowSet k (.string y)).rowCell (j := j) (by rw [List.getElem?_set_ne (by omega)]; exact strs_get hy)
      have j2f := (H.out.rowSet k (.string y)).rowFree (j := j)
      have hst := hide hst
      have f2 : IntKind.i64.wrap ((j : Int) - 1) = (j : Int) - 1 := IntWalk.i64_in _ (by omega)
      have hji := hide hj
      rw [hjI]
      clear hx hy hj hjI j1 hlt'
      go_wp2
      go_region_law (fail)
      all_goals
        go_wp2
        go_roundg (n - (k + 1))
        case measure => rw [← hc.out]; omega
        case rel => exact ⟨k + 1, _, ⟨rfl⟩, hst, by omega, by go_num, by have := hji.out; congr 1; omega, by rw [← e1.out]; exact HS.out.drew⟩
    · have hlt' : ¬ (k : Int) < (n : Int) - 1 - k := by omega
      have hd := hide (hR.out.done (by rw [hn'.out]; omega))
      go_wp2
      go_end0
      exact ⟨rfl, by rw [← hd.out]; exact H.out⟩
end Go.Proofs.YtbbdimlpofjlfaaGreatDoor
