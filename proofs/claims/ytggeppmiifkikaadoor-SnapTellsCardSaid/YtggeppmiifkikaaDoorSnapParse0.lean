/- snap.Parse: what ends early; the frames of its loops. -/
import Derived.Test.YtggeppmiifkikaaDoorSnapDec
import Derived.Test.YtggeppmiifkikaaDoorSl2
import Derived.Test.YtggeppmiifkikaaDoorQuiet
import Derived.Laws.EntriesVeiled
import Derived.Deep.DeepCutAuto
namespace Go.Proofs.YtggeppmiifkikaaDoor
open Go Go.RowKit Go.Shelf

theorem HasPre (s : ByteArray) (d : Bool) (hs : 3 ≤ s.size) (h : ((s.extract 0 3).toList == [67, 87, 1]) = d) (w : World) :
    Calls Tryd.prog 34 #[.string s, .string ⟨#[67, 87, 1]⟩] w fun r w' => r = .returned (.bool d) ∧ Keep w w' := by
  obtain ⟨n, hn⟩ : ∃ n, s.size = n := ⟨_, rfl⟩
  have e1 : (3 : Int) ≤ (n : Int) := by omega
  have e2 : (⟨#[67, 87, 1]⟩ : ByteArray).size = 3 := rfl
  have e3 : (⟨#[67, 87, 1]⟩ : ByteArray).toList = [67, 87, 1] := by decide +kernel
  go_enter Tryd.func34, Tryd.ntmps34
  go_wp2
  go_ret
  exact ⟨rfl, Keep.refl w⟩
def zeroP : Array Value := #[.int .i64 0, .int .i64 0, .int .i64 0, .int .i64 0, .int .i64 0, .int .i64 0, .int .i64 0, .int .i64 0, .int .i64 0, .slice none 0 0]
theorem zero_all {g w : World} {b : Nat} {t : TypeId} {F : List SProp} (h : Holds g w (pts b (.cells zeroP t) :: F)) :
    w.cell? ⟨b, 0, none⟩ = some (.int .i64 0) ∧ w.cell? ⟨b, 1, none⟩ = some (.int .i64 0) ∧ w.cell? ⟨b, 2, none⟩ = some (.int .i64 0) ∧ w.cell? ⟨b, 3, none⟩ = some (.int .i64 0) ∧
    w.cell? ⟨b, 4, none⟩ = some (.int .i64 0) ∧ w.cell? ⟨b, 5, none⟩ = some (.int .i64 0) ∧ w.cell? ⟨b, 6, none⟩ = some (.int .i64 0) ∧ w.cell? ⟨b, 7, none⟩ = some (.int .i64 0) ∧ w.cell? ⟨b, 8, none⟩ = some (.int .i64 0) ∧ w.cell? ⟨b, 9, none⟩ = some (.slice none 0 0) :=
  ⟨h.cell rfl, h.cell rfl, h.cell rfl, h.cell rfl, h.cell rfl, h.cell rfl, h.cell rfl, h.cell rfl, h.cell rfl, h.cell rfl⟩
theorem free_all {g w : World} {b : Nat} {cs : Array Value} {t : TypeId} {F : List SProp} (h : Holds g w (pts b (.cells cs t) :: F)) :
    w.frozen? ⟨b, 0, none⟩ = false ∧ w.frozen? ⟨b, 1, none⟩ = false ∧ w.frozen? ⟨b, 2, none⟩ = false ∧ w.frozen? ⟨b, 3, none⟩ = false ∧ w.frozen? ⟨b, 4, none⟩ = false ∧ w.frozen? ⟨b, 5, none⟩ = false ∧ w.frozen? ⟨b, 6, none⟩ = false ∧ w.frozen? ⟨b, 7, none⟩ = false ∧ w.frozen? ⟨b, 8, none⟩ = false ∧ w.frozen? ⟨b, 9, none⟩ = false :=
  ⟨h.free, h.free, h.free, h.free, h.free, h.free, h.free, h.free, h.free, h.free⟩
theorem ErrAt.setCell {w : World} {b off : Nat} {cs : Array Value} {t : TypeId} {fz : Nat × Nat} {x : Value} (hb : w.heap[b]? = some (.cells cs t fz)) (ht : t ≠ 59) : ∀ {e : EV} {v : Value}, ErrAt w e v → ErrAt (w.setCell ⟨b, off, none⟩ x) e v
  | .nil, _, h => h
  | .no _, _, h => h
  | .fault _ _ _, _, ⟨c, ve, h1, h2, h3⟩ => ⟨c, ve, h1, by
      rw [heap_setCell_other _ _ _ _ (fun hcb => ?_)]
      · exact h2
      · rw [show c = b from hcb, hb] at h2
        cases h2
        exact ht rfl, h3.setCell hb ht⟩
structure HE (g w : World) (b : Nat) (cs : Array Value) (t : TypeId) (F : List SProp) (e : EV) (u : Value) : Prop where
  h : Holds g w (pts b (.cells cs t) :: F)
  e : ErrAt w e u
theorem HE.set {g w : World} {b off : Nat} {cs cs' : Array Value} {t : TypeId} {F : List SProp} {e : EV} {u v : Value} (ht : t ≠ 59) (h : HE g w b cs t F e u) (hc : cs.setIfInBounds off v = cs') : HE g (w.setCell ⟨b, off, none⟩ v) b cs' t F e u :=
  ⟨by rw [← hc]; exact h.h.setCell, h.e.setCell h.h.block ht⟩
theorem set10 {g w : World} {b : Nat} {F : List SProp} {e : EV} {u : Value} (h : Holds g w (pts b (.cells zeroP 26) :: F)) (he : ErrAt w e u) (v0 v1 v2 v3 v4 v5 v6 v7 v8 v9 : Value) :
    HE g ((((((((((w.setCell ⟨b, 0, none⟩ v0).setCell ⟨b, 1, none⟩ v1).setCell ⟨b, 2, none⟩ v2).setCell ⟨b, 3, none⟩ v3).setCell ⟨b, 4, none⟩ v4).setCell ⟨b, 5, none⟩ v5).setCell ⟨b, 6, none⟩ v6).setCell ⟨b, 7, none⟩ v7).setCell ⟨b, 8, none⟩ v8).setCell ⟨b, 9, none⟩ v9)
      b #[v0, v1, v2, v3, v4, v5, v6, v7, v8, v9] 26 F e u :=
  have ht : 26 ≠ 59 := by decide
  (((((((((HE.mk h he |>.set ht (by simp [zeroP]; rfl)).set ht (by simp; rfl)).set ht (by simp; rfl)).set ht (by simp; rfl)).set ht (by simp; rfl)).set ht (by simp; rfl)).set ht (by simp; rfl)).set ht (by simp; rfl)).set ht (by simp; rfl)).set ht (by simp)
theorem infoPic : (Tryd.prog.info? 26).map (·.size) = some 10 := by kernel_rfl
theorem ret_pic {g w : World} {b : Nat} {F : List SProp} {v0 v1 v2 v3 v4 v5 v6 v7 v8 v9 : Value} {tmps : Array Value} (h : Holds g w (pts b (.cells #[v0, v1, v2, v3, v4, v5, v6, v7, v8, v9] 26) :: F))
    (hp : tmps.getD 2 undef = .pointer (some ⟨b, 0, none⟩)) : (results Tryd.f14 tmps).run Tryd.prog w = .ok (.tuple #[.agg #[v0, v1, v2, v3, v4, v5, v6, v7, v8, v9], tmps.getD 3 undef]) w := by
  have hp' : tmps[2]?.getD undef = .pointer (some ⟨b, 0, none⟩) := by simpa using hp
  simp [results, hp', asAddr, run_loadVar_row w b 26 26 _ (0, 0) _ h.block Tryd.underlying26 rfl infoPic]
set_option maxRecDepth 100000 in
theorem Parse_short (s : ByteArray) (hs : s.size < 11) (w : World) :
    Calls Tryd.prog 14 #[.string s] w fun r w' => ∃ u, r = .returned (.tuple #[.agg (picCells noPic (.slice none 0 0)), u]) ∧ Keep w w' ∧ ErrAt w' (.fault tParse ⟨#[]⟩ (.no 8)) u := by
  obtain ⟨n, hn⟩ : ∃ n, s.size = n := ⟨_, rfl⟩
  rw [hn] at hs
  have f1 : IntKind.i64.wrap ((n : Int) - 8) = (n : Int) - 8 := IntWalk.i64_in _ (by omega)
  have f2 : (n : Int) - 8 < 3 := by omega
  have H0 := hide ((Holds.start w).alloc (o := .cells zeroP 26))
  go_enter Tryd.func14, Tryd.ntmps14
  go_wp2
  (refine wp_region_kept (by kernel_rfl) (by kernel_rfl) ?_; (repeat (go_big_quiet_step (fail))); refine wpQuiet_nil ?_; intro _ hw'; obtain ⟨uq, hw''⟩ := hw'; subst hw'')
  have H1 := hide (H0.out.keep uq.keep)
  go_wp2_with (go_at_call 33; (with_reducible refine (Snap_fault_no _ _ _).mono ?_); rintro r w2 ⟨v2, rfl, hk2, he2⟩; have h2 := hide (H1.out.keep hk2); obtain ⟨r0, r1, r2, r3, r4, r5, r6, r7, r8, r9⟩ := zero_all h2.out; obtain ⟨g0, g1, g2, g3, g4, g5, g6, g7, g8, g9⟩ := free_all h2.out; clear hk2; have he2 := hide he2)
  have h3 := hide (set10 h2.out he2.out (.int .i64 0) (.int .i64 0) (.int .i64 0) (.int .i64 0) (.int .i64 0) (.int .i64 0) (.int .i64 0) (.int .i64 0) (.int .i64 0) (.slice none 0 0))
  refine bodyPost_ret (ret_pic h3.out.h rfl) rfl ?_
  exact ⟨_, rfl, h3.out.h.drop.toKeep, h3.out.e⟩
set_option maxRecDepth 100000 in
theorem Parse_seal (s : ByteArray) (m : Nat) (hs : s.size = m + 8) (h3 : 3 ≤ m) (h5 : m ≤ 99000) (hne : beB (hashN (s.extract 0 m).data.toList) 8 ≠ (s.extract m (m + 8)).data.toList) (w : World) :
    Calls Tryd.prog 14 #[.string s] w fun r w' => ∃ u, r = .returned (.tuple #[.agg (picCells noPic (.slice none 0 0)), u]) ∧ Keep w w' ∧ ErrAt w' (.fault tParse ⟨#[]⟩ (.no 8)) u := by
  obtain ⟨n, hn⟩ : ∃ n, s.size = n := ⟨_, rfl⟩
  have hnm : n = m + 8 := by rw [← hn]; exact hs
  rw [← hnm] at hne
  have f1 : IntKind.i64.wrap ((n : Int) - 8) = (m : Int) := by rw [IntWalk.i64_in _ (by omega)]; omega
  have f2 : decide ((m : Int) < 3) = false := decide_eq_false (by omega)
  have f3 : (m : Int) ≤ n := by omega
  have hH := hide (Draw_Hash (s.extract 0 m) (by rw [ByteArray.size_extract]; omega))
  have hhl := hashN_lt (s.extract 0 m).data.toList
  obtain ⟨hv, hhv⟩ : ∃ hv, hashN (s.extract 0 m).data.toList = hv := ⟨_, rfl⟩
  rw [hhv] at hH hhl hne
  obtain ⟨sc, hsc⟩ : ∃ sc : ByteArray, ⟨(beB hv 8).toArray⟩ = sc := ⟨_, rfl⟩
  have nC := hide (fun w => Num8_val hv sc hsc hhl w)
  have hd : (sc.toList == (s.extract m n).toList) = false := by
    rw [beq_eq_false_iff_ne, ByteArray.toList_eq, ByteArray.toList_eq, ← hsc]
    exact hne
  clear hs hnm hne hhv hsc
  have H0 := hide ((Holds.start w).alloc (o := .cells zeroP 26))
  go_enter Tryd.func14, Tryd.ntmps14
  go_wp2
  (refine wp_region_kept (by kernel_rfl) (by kernel_rfl) ?_; (repeat (go_big_quiet_step ((first | (go_at_call 29; with_reducible exact KeptOf.calls (hH.out _)) | (go_at_call 27; with_reducible exact KeptOf.calls (nC.out _)))))); refine wpQuiet_nil ?_; intro _ hw'; obtain ⟨uq, hw''⟩ := hw'; subst hw'')
  have H1 := hide (H0.out.keep uq.keep)
  go_wp2_with (go_at_call 33; (with_reducible refine (Snap_fault_no _ _ _).mono ?_); rintro r w2 ⟨v2, rfl, hk2, he2⟩; have h2 := hide (H1.out.keep hk2); obtain ⟨r0, r1, r2, r3, r4, r5, r6, r7, r8, r9⟩ := zero_all h2.out; obtain ⟨g0, g1, g2, g3, g4, g5, g6, g7, g8, g9⟩ := free_all h2.out; clear hk2; have he2 := hide he2)
  have h3 := hide (set10 h2.out he2.out (.int .i64 0) (.int .i64 0) (.int .i64 0) (.int .i64 0) (.int .i64 0) (.int .i64 0) (.int .i64 0) (.int .i64 0) (.int .i64 0) (.slice none 0 0))
  refine bodyPost_ret (ret_pic h3.out.h rfl) rfl ?_
  exact ⟨_, rfl, h3.out.h.drop.toKeep, h3.out.e⟩
set_option maxRecDepth 100000 in
theorem Parse_version (s : ByteArray) (m : Nat) (hs : s.size = m + 8) (h3 : 3 ≤ m) (h5 : m ≤ 99000) (heq : beB (hashN (s.extract 0 m).data.toList) 8 = (s.extract m (m + 8)).data.toList) (hpre : (s.extract 0 3).data.toList ≠ hd0) (w : World) :
    Calls Tryd.prog 14 #[.string s] w fun r w' => ∃ u, r = .returned (.tuple #[.agg (picCells noPic (.slice none 0 0)), u]) ∧ Keep w w' ∧ ErrAt w' (.fault tParse ⟨#[]⟩ (.no 9)) u := by
  have hP := hide (HasPre s false (by omega) (by rw [beq_eq_false_iff_ne, ByteArray.toList_eq]; exact hpre))
  clear hpre
  obtain ⟨n, hn⟩ : ∃ n, s.size = n := ⟨_, rfl⟩
  have hnm : n = m + 8 := by rw [← hn]; exact hs
  rw [← hnm] at heq
  have f1 : IntKind.i64.wrap ((n : Int) - 8) = (m : Int) := by rw [IntWalk.i64_in _ (by omega)]; omega
  have f2 : decide ((m : Int) < 3) = false := decide_eq_false (by omega)
  have f3 : (m : Int) ≤ n := by omega
  have f4 : (3 : Int) ≤ m := by omega
  have hH := hide (Draw_Hash (s.extract 0 m) (by rw [ByteArray.size_extract]; omega))
  have hhl := hashN_lt (s.extract 0 m).data.toList
  obtain ⟨hv, hhv⟩ : ∃ hv, hashN (s.extract 0 m).data.toList = hv := ⟨_, rfl⟩
  rw [hhv] at hH hhl heq
  obtain ⟨sc, hsc⟩ : ∃ sc : ByteArray, ⟨(beB hv 8).toArray⟩ = sc := ⟨_, rfl⟩
  have nC := hide (fun w => Num8_val hv sc hsc hhl w)
  have hd : (sc.toList == (s.extract m n).toList) = true := by
    rw [beq_iff_eq, ByteArray.toList_eq, ByteArray.toList_eq, ← hsc]
    exact heq
  clear hs hnm heq hhv hsc
  have H0 := hide ((Holds.start w).alloc (o := .cells zeroP 26))
  go_enter Tryd.func14, Tryd.ntmps14
  go_wp2
  (refine wp_region_kept (by kernel_rfl) (by kernel_rfl) ?_; (repeat (go_big_quiet_step ((first | (go_at_call 29; with_reducible exact KeptOf.calls (hH.out _)) | (go_at_call 27; with_reducible exact KeptOf.calls (nC.out _)))))); refine wpQuiet_nil ?_; intro _ hw'; obtain ⟨uq, hw''⟩ := hw'; subst hw'')
  have H1 := hide (H0.out.keep uq.keep)
  go_wp2_with (first
    | (go_at_call 34; (with_reducible refine (hP.out _).mono ?_); rintro r w1 ⟨rfl, hkp⟩; have H2 := hide (H1.out.keep hkp); clear hkp)
    | (go_at_call 33; (with_reducible refine (Snap_fault_no _ _ _).mono ?_); rintro r w2 ⟨v2, rfl, hk2, he2⟩; have h2 := hide (H2.out.keep hk2); obtain ⟨r0, r1, r2, r3, r4, r5, r6, r7, r8, r9⟩ := zero_all h2.out; obtain ⟨g0, g1, g2, g3, g4, g5, g6, g7, g8, g9⟩ := free_all h2.out; clear hk2; have he2 := hide he2))
  have h3 := hide (set10 h2.out he2.out (.int .i64 0) (.int .i64 0) (.int .i64 0) (.int .i64 0) (.int .i64 0) (.int .i64 0) (.int .i64 0) (.int .i64 0) (.int .i64 0) (.slice none 0 0))
  refine bodyPost_ret (ret_pic h3.out.h rfl) rfl ?_
  exact ⟨_, rfl, h3.out.h.drop.toKeep, h3.out.e⟩
def hdCells (vs : List Int) : Array Value := (vs.map (Value.int .i64) ++ List.replicate (9 - vs.length) (Value.int .i64 0) ++ [Value.slice none 0 0]).toArray
theorem hd_get (vs : List Int) (k : Nat) (hk : vs.length = k) (h9 : k < 9) : (hdCells vs)[k]? = some (.int .i64 0) := by
  obtain ⟨j, hj⟩ : ∃ j, 9 - vs.length = j + 1 := ⟨8 - vs.length, by omega⟩
  unfold hdCells
  rw [hj, List.replicate_succ]
  simp [← hk]
theorem hd_set (vs : List Int) (k : Nat) (v : Int) (hk : vs.length = k) (h9 : k < 9) : (hdCells vs).setIfInBounds k (.int .i64 v) = hdCells (vs ++ [v]) := by
  obtain ⟨j, hj⟩ : ∃ j, 9 - vs.length = j + 1 := ⟨8 - vs.length, by omega⟩
  have hj' : 9 - (vs.length + 1) = j := by omega
  unfold hdCells
  rw [List.length_append, List.length_singleton, hj, hj', List.replicate_succ]
  simp [← hk]
def ptrs (pb : Nat) : Array Value := #[.pointer (some ⟨pb, 0, none⟩), .pointer (some ⟨pb, 1, none⟩), .pointer (some ⟨pb, 2, none⟩), .pointer (some ⟨pb, 3, none⟩), .pointer (some ⟨pb, 4, none⟩), .pointer (some ⟨pb, 5, none⟩), .pointer (some ⟨pb, 6, none⟩), .pointer (some ⟨pb, 7, none⟩), .pointer (some ⟨pb, 8, none⟩)]
theorem ptr_get (pb k : Nat) (h : k < 9) : (ptrs pb)[k]? = some (.pointer (some ⟨pb, k, none⟩)) := by
  match k, h with
  | 0, _ | 1, _ | 2, _ | 3, _ | 4, _ | 5, _ | 6, _ | 7, _ | 8, _ => rfl
theorem len9 {vs : List Int} (h : vs.length = 9) : ∃ a b c d e f g i j, vs = [a, b, c, d, e, f, g, i, j] := by
  match vs, h with
  | [a, b, c, d, e, f, g, i, j], _ => exact ⟨_, _, _, _, _, _, _, _, _, rfl⟩
def itCells (l : List It) : List Value := l.flatMap fun x => [.string x.key, .string x.val, .int .i64 x.dl]
theorem itCells_snoc (l : List It) (x : It) : itCells (l ++ [x]) = itCells l ++ [.string x.key, .string x.val, .int .i64 x.dl] := by simp [itCells]
/-- The call owns the slice v, which holds these items. -/
def OwnItems (v : Value) (l : List It) : SProp := OwnRow 53 3 v l.length (itCells l)
theorem itCells_get : ∀ (xs : List It) (j : Nat) (x : It), xs[j]? = some x → (itCells xs)[j * 3]? = some (.string x.key) ∧ (itCells xs)[j * 3 + 1]? = some (.string x.val) ∧ (itCells xs)[j * 3 + 1 + 1]? = some (.int .i64 x.dl)
  | [], j, x, h => by simp at h
  | y :: ys, 0, x, h => by
    obtain rfl : y = x := by simpa using h
    exact ⟨rfl, rfl, rfl⟩
  | y :: ys, j + 1, x, h => by
    have := itCells_get ys j x (by simpa using h)
    rw [show (j + 1) * 3 = j * 3 + 3 by omega]
    exact this
theorem Holds.itemsAt {g w : World} {v : Value} {n : Nat} {xs : List It} {L : List SProp} (h : Holds g w (OwnRow 53 3 v n (itCells xs) :: L)) (hl : xs.length = n) : ItemsAt w v xs := by
  have ho := h.ownsRow
  rcases ho.2 with ⟨rfl, h0⟩ | ⟨q, cap, cur, rfl, h1, h2, h3, h4, h5, h6⟩
  · exact .inl ⟨⟨_, _, rfl⟩, List.length_eq_zero_iff.1 (by omega)⟩
  · refine .inr ⟨q, 0, cap, by rw [hl], by omega, h4, fun j x hx => ?_⟩
    have hadd : ∀ j, (⟨q, 0, none⟩ : Addr).add j = ⟨q, 0 + j, none⟩ := fun j => by unfold Addr.add; split <;> simp_all
    obtain ⟨a, b, c⟩ := itCells_get xs j x hx
    have a' := ho.cells (g := q) rfl _ _ a
    have b' := ho.cells (g := q) rfl _ _ b
    have c' := ho.cells (g := q) rfl _ _ c
    rw [hadd] at a' b' c'
    refine ⟨a', ?_, ?_⟩
    · rw [Nat.add_assoc]; exact b'
    · rw [Nat.add_assoc, Nat.add_assoc]; exact c'
theorem Holds.itemsOf {g w : World} {v : Value} {xs : List It} {L : List SProp} (h : Holds g w (OwnItems v xs :: L)) : ItemsAt w v xs := Holds.itemsAt (n := xs.length) h rfl
theorem Holds.ownItems {g w : World} {v : Value} {n : Nat} {xs : List It} {L : List SProp} (h : Holds g w (OwnRow 53 3 v n (itCells xs) :: L)) (hl : xs.length = n) : Holds g w (OwnItems v xs :: L) := by
  unfold OwnItems
  rw [hl]
  exact h
theorem ten_cells {g w : World} {b : Nat} {t : TypeId} {F : List SProp} {v0 v1 v2 v3 v4 v5 v6 v7 v8 v9 : Value} (h : Holds g w (pts b (.cells #[v0, v1, v2, v3, v4, v5, v6, v7, v8, v9] t) :: F)) :
    w.cell? ⟨b, 0, none⟩ = some v0 ∧ w.cell? ⟨b, 1, none⟩ = some v1 ∧ w.cell? ⟨b, 2, none⟩ = some v2 ∧ w.cell? ⟨b, 3, none⟩ = some v3 ∧
    w.cell? ⟨b, 4, none⟩ = some v4 ∧ w.cell? ⟨b, 5, none⟩ = some v5 ∧ w.cell? ⟨b, 6, none⟩ = some v6 ∧ w.cell? ⟨b, 7, none⟩ = some v7 ∧ w.cell? ⟨b, 8, none⟩ = some v8 ∧ w.cell? ⟨b, 9, none⟩ = some v9 :=
  ⟨h.cell rfl, h.cell rfl, h.cell rfl, h.cell rfl, h.cell rfl, h.cell rfl, h.cell rfl, h.cell rfl, h.cell rfl, h.cell rfl⟩
theorem picOf_head {v0 v1 v2 v3 v4 v5 v6 v7 v8 v6' : Int} {us : List Nat} {xs : List It} (h : [v0, v1, v2, v3, v4, v5, v6, v7, v8] = us.map fun u : Nat => (u : Int)) (hs : ∀ u ∈ us, u < 9223372036854775808) (h6 : IntKind.i64.wrap (v6 - 1) = v6') :
    picOf us xs = ⟨⟨v0, v1, v2, v3, v4, v5, v6'⟩, v7, v8, xs⟩ := by
  match us, h with
  | [u0, u1, u2, u3, u4, u5, u6, u7, u8], h =>
    simp only [List.map_cons, List.map_nil, List.cons.injEq, and_true] at h
    obtain ⟨rfl, rfl, rfl, rfl, rfl, rfl, rfl, rfl, rfl⟩ := h
    have hb := hs u6 (by simp)
    rw [IntWalk.i64_in _ (by omega)] at h6
    rw [← h6]
    rfl
theorem wrapE_no (e : EV) (n : Int) : wrapE e ≠ .no n := by cases e <;> simp [wrapE]
abbrev zeroI : Array Value := #[.string ⟨#[]⟩, .string ⟨#[]⟩, .int .i64 0]
def ParseP (r0 : List UInt8) (w : World) (r : Ending) (w' : World) : Prop := Keep w w' ∧
  ((decD r0 = none ∧ ∃ u, r = .returned (.tuple #[.agg (picCells noPic (.slice none 0 0)), u]) ∧ ErrAt w' (.fault tParse ⟨#[]⟩ (.no 2)) u) ∨
   ∃ p, decD r0 = some p ∧ (((picE p).isNil = false ∧ ∃ u, r = .returned (.tuple #[.agg (picCells noPic (.slice none 0 0)), u]) ∧ ErrAt w' (.fault tParse ⟨#[]⟩ (picE p)) u) ∨
     ((picE p).isNil = true ∧ ∃ v, r = .returned (.tuple #[.agg (picCells p v), .nilIface]) ∧ Holds w w' [OwnItems v p.items])))
theorem ownsShape {w : World} {base size n : Nat} {e : TypeId} {v : Value} {xs : List Value} (h : w.ownsRow base e size v n xs) : ∃ ao cap, v = .slice ao n cap := by
  rcases h.2 with ⟨rfl, rfl⟩ | ⟨q, cap, cur, rfl, _⟩
  · exact ⟨_, _, rfl⟩
  · exact ⟨_, _, rfl⟩
theorem cells3_new (w : World) (n : Nat) (x y z : Value) (t : TypeId) (hn : w.heap.size = n) : ∀ j u, [x, y, z][j]? = some u → (w.alloc (.cells #[x, y, z] t)).cell? ((⟨n, 0, none⟩ : Addr).add j) = some u := by
  intro j u hj
  subst hn
  have h := (Holds.start w).alloc (o := .cells #[x, y, z] t)
  match j, hj with
  | 0, hj => cases hj; exact h.cell rfl
  | 1, hj => cases hj; exact h.cell rfl
  | 2, hj => cases hj; exact h.cell rfl
theorem infoItem : (Tryd.prog.info? 53).map (fun i => (i.zero, i.size, i.bytes)) = some (some (.agg #[.string ⟨#[]⟩, .string ⟨#[]⟩, .int .i64 0]), 3, 40) := by kernel_rfl
/-- What four reads leave. -/
structure FourR (r : List UInt8) (b : Bool) (t1 t2 r4 : List UInt8) (b4 : Bool) : Prop where
  le : r4.length ≤ r.length
  step : ∀ d r5 b5, GetR 8 r4 b4 d r5 b5 → (b = true → b5 = true) ∧ (b5 = false → itD r = some (⟨⟨t1.toArray⟩, ⟨t2.toArray⟩, d⟩, r5)) ∧ (b = false → b5 = true → itD r = none)
theorem four {r r1 r2 r3 r4 t1 t2 : List UInt8} {b b1 b2 b3 b4 : Bool} {n1 n2 : Nat} (h1 : GetR 1 r b n1 r1 b1) (h2 : TakeR n1 r1 b1 t1 r2 b2) (h3 : GetR 2 r2 b2 n2 r3 b3) (h4 : TakeR n2 r3 b3 t2 r4 b4) : FourR r b t1 t2 r4 b4 :=
  ⟨Nat.le_trans h4.le (Nat.le_trans h3.le (Nat.le_trans h2.le h1.le)), fun _ _ _ h5 => itD_of h1 h2 h3 h4 h5⟩
end Go.Proofs.YtggeppmiifkikaaDoor
