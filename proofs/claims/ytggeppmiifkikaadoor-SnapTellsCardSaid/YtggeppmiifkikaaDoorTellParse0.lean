/- The document's reading of bytes: what ends early; the frames of its loops. -/
import Derived.Test.YtggeppmiifkikaaDoorTellItem
import Derived.Test.YtggeppmiifkikaaDoorTellRight
import Derived.Test.YtggeppmiifkikaaDoorTellPrint
import Derived.Test.YtggeppmiifkikaaDoorSnapOf
namespace Go.Proofs.YtggeppmiifkikaaDoor
open Go Go.RowKit Go.Shelf

/-! The ten numbers. -/
def arCells (us : List Nat) : Array Value := (us.map (fun u : Nat => Value.int .i64 u) ++ List.replicate (10 - us.length) (Value.int .i64 0)).toArray
theorem ar_get (us : List Nat) (k : Nat) (hk : us.length = k) (h : k < 10) : (arCells us)[k]? = some (.int .i64 0) := by
  obtain ⟨j, hj⟩ : ∃ j, 10 - us.length = j + 1 := ⟨9 - us.length, by omega⟩
  unfold arCells
  rw [hj, List.replicate_succ]
  simp [← hk]
theorem ar_set (us : List Nat) (k : Nat) (v : Nat) (hk : us.length = k) (h : k < 10) : (arCells us).setIfInBounds k (.int .i64 v) = arCells (us ++ [v]) := by
  obtain ⟨j, hj⟩ : ∃ j, 10 - us.length = j + 1 := ⟨9 - us.length, by omega⟩
  have hj' : 10 - (us.length + 1) = j := by omega
  unfold arCells
  rw [List.length_append, List.length_singleton, hj, hj', List.replicate_succ]
  simp [← hk]
theorem ar_nil : arCells [] = #[.int .i64 0, .int .i64 0, .int .i64 0, .int .i64 0, .int .i64 0, .int .i64 0, .int .i64 0, .int .i64 0, .int .i64 0, .int .i64 0] := rfl
theorem ar_ten (a b c d e f g i j k : Nat) : arCells [a, b, c, d, e, f, g, i, j, k] = #[.int .i64 a, .int .i64 b, .int .i64 c, .int .i64 d, .int .i64 e, .int .i64 f, .int .i64 g, .int .i64 i, .int .i64 j, .int .i64 k] := rfl
theorem len10 {vs : List Nat} (h : vs.length = 10) : ∃ a b c d e f g i j k, vs = [a, b, c, d, e, f, g, i, j, k] := by
  match vs, h with
  | [a, b, c, d, e, f, g, i, j, k], _ => exact ⟨_, _, _, _, _, _, _, _, _, _, rfl⟩
/-! Numbers at the front. -/
theorem hdD_len : ∀ {k : Nat} {r r1 : List UInt8} {us : List Nat}, hdD k r = some (us, r1) → us.length = k ∧ r1.length ≤ r.length
  | 0, r, r1, us, h => by
    cases h; exact ⟨rfl, Nat.le_refl _⟩
  | k + 1, r, r1, us, h => by
    rw [hdD] at h
    cases h1 : hdD k r with
    | none => rw [h1] at h; cases h
    | some p =>
      obtain ⟨vs, r2⟩ := p
      rw [h1, Option.bind_some] at h
      dsimp only at h
      cases h2 : numD 8 r2 with
      | none => rw [h2] at h; cases h
      | some q =>
        obtain ⟨v, r3⟩ := q
        rw [h2, Option.bind_some] at h
        cases h
        have a := hdD_len h1
        have b := numD_le h2
        exact ⟨by rw [List.length_append, a.1]; rfl, by dsimp only; omega⟩
theorem hdD_next {k : Nat} {r r1 r2 : List UInt8} {us : List Nat} {v : Nat} (h : hdD k r = some (us, r1)) (hv : numD 8 r1 = some (v, r2)) : hdD (k + 1) r = some (us ++ [v], r2) := by
  rw [hdD, h, Option.bind_some]; dsimp only; rw [hv]; rfl
theorem hdD_stop {k : Nat} {r r1 : List UInt8} {us : List Nat} (h : hdD k r = some (us, r1)) (hv : numD 8 r1 = none) : hdD (k + 1) r = none := by
  rw [hdD, h, Option.bind_some]; dsimp only; rw [hv]; rfl
theorem hdD_none {r : List UInt8} : ∀ {j k : Nat}, j ≤ k → hdD j r = none → hdD k r = none
  | j, 0, h, hn => by
    obtain rfl : j = 0 := by omega
    exact hn
  | j, k + 1, h, hn => by
    by_cases hj : j = k + 1
    · subst hj; exact hn
    · rw [hdD, hdD_none (j := j) (k := k) (by omega) hn]; rfl
theorem decD_ten (r : List UInt8) : decD r = (hdD 10 r).bind fun (us, r2) => (itsD (us.getD 9 0) r2).bind fun (xs, r3) => if r3 = [] then some (picOf us xs) else none := by
  unfold decD
  rw [show hdD 10 r = (hdD 9 r).bind fun (vs, r1) => (numD 8 r1).bind fun (v, r2) => some (vs ++ [v], r2) from rfl]
  cases h : hdD 9 r with
  | none => rfl
  | some p =>
    obtain ⟨vs, r1⟩ := p
    have hl := (hdD_len h).1
    rw [Option.bind_some, Option.bind_some]
    dsimp only
    cases h2 : numD 8 r1 with
    | none => rfl
    | some q =>
      obtain ⟨c, r2⟩ := q
      rw [Option.bind_some, Option.bind_some, Option.bind_some]
      dsimp only
      match vs, hl with
      | [a, b, c', d, e, f, g, i, j], _ => rfl
theorem dec_short {k : Nat} {r r1 : List UInt8} {us : List Nat} (hk : k < 10) (h : hdD k r = some (us, r1)) (hv : numD 8 r1 = none) : decD r = none := by
  rw [decD_ten, hdD_none (j := k + 1) (k := 10) (by omega) (hdD_stop h hv)]; rfl
theorem dec_items {r r1 r2 : List UInt8} {us : List Nat} {xs : List It} {k : Nat} (h : hdD 10 r = some (us, r1)) (hk : k < us.getD 9 0) (hi : itsD k r1 = some (xs, r2)) (hv : itD r2 = none) : decD r = none := by
  rw [decD_ten, h, Option.bind_some]
  dsimp only
  rw [itsD_none (j := k + 1) (k := us.getD 9 0) (by omega) (itsD_stop hi hv)]; rfl
theorem dec_left {r r1 r2 : List UInt8} {us : List Nat} {xs : List It} (h : hdD 10 r = some (us, r1)) (hi : itsD (us.getD 9 0) r1 = some (xs, r2)) (hr : r2 ≠ []) : decD r = none := by
  rw [decD_ten, h, Option.bind_some]
  dsimp only
  rw [hi, Option.bind_some]
  exact if_neg hr
theorem dec_all {r r1 : List UInt8} {us : List Nat} {xs : List It} (h : hdD 10 r = some (us, r1)) (hi : itsD (us.getD 9 0) r1 = some (xs, [])) : decD r = some (picOf us xs) := by
  rw [decD_ten, h, Option.bind_some]
  dsimp only
  rw [hi, Option.bind_some]
  exact if_pos rfl
theorem item_no (r : List UInt8) (h : itD r = none) (hr : r.length ≤ 100000) (w : World) :
    Calls Tryd.prog 38 #[.string ⟨r.toArray⟩] w fun e w' => ∃ k v d, e = .returned (.tuple #[.agg #[.string k, .string v, .int .i64 d], .string ⟨#[]⟩, .bool false]) ∧ Keep w w' := by
  refine (Ref_itemD r hr w).mono ?_
  rintro e w' ⟨⟨_, k, v, d, h2⟩ | ⟨x, r1, h2, _⟩, hk⟩
  · exact ⟨k, v, d, h2, hk⟩
  · rw [h] at h2; cases h2
theorem item_ok (r r1 : List UInt8) (x : It) (h : itD r = some (x, r1)) (hr : r.length ≤ 100000) (w : World) :
    Calls Tryd.prog 38 #[.string ⟨r.toArray⟩] w fun e w' => e = .returned (.tuple #[.agg #[.string x.key, .string x.val, .int .i64 x.dl], .string ⟨r1.toArray⟩, .bool true]) ∧ Keep w w' := by
  refine (Ref_itemD r hr w).mono ?_
  rintro e w' ⟨⟨h2, _⟩ | ⟨x', r1', h2, h3⟩, hk⟩
  · rw [h] at h2; cases h2
  · rw [h] at h2; cases h2
    exact ⟨h3, hk⟩
/-! The result. -/
theorem ret_refpic {g w : World} {b : Nat} {F : List SProp} {v0 v1 v2 v3 v4 v5 v6 v7 v8 v9 : Value} {tmps : Array Value} (h : Holds g w (pts b (.cells #[v0, v1, v2, v3, v4, v5, v6, v7, v8, v9] 37) :: F))
    (hp : tmps.getD 2 undef = .pointer (some ⟨b, 0, none⟩)) : (results Tryd.f15 tmps).run Tryd.prog w = .ok (.tuple #[.agg #[v0, v1, v2, v3, v4, v5, v6, v7, v8, v9], tmps.getD 3 undef]) w := by
  have hp' : tmps[2]?.getD undef = .pointer (some ⟨b, 0, none⟩) := by simpa using hp
  simp [results, hp', asAddr, run_loadVar_row w b 37 37 _ (0, 0) _ h.block Tryd.underlying37 rfl infoRefPic]
/-- A fault with that number. -/
def RefNo (c : Int) (w : World) (r : Ending) (w' : World) : Prop := r = .returned (.tuple #[.agg (picCells noPic (.slice none 0 0)), .int .i64 c]) ∧ Keep w w'
set_option maxRecDepth 100000 in
theorem Ref_Parse_short (s : ByteArray) (hs : s.size < 11) (w : World) :
    Calls Tryd.prog 15 #[.string s] w fun r w' => RefNo 8 w r w' := by
  obtain ⟨n, hn⟩ : ∃ n, s.size = n := ⟨_, rfl⟩
  rw [hn] at hs
  have f2 : (n : Int) < 11 := by omega
  have H0 := hide ((Holds.start w).alloc (o := .cells zeroP 37))
  clear hs
  go_enter Tryd.func15, Tryd.ntmps15
  go_wp2
  (refine wp_region_kept (by kernel_rfl) (by kernel_rfl) ?_; (repeat (go_big_quiet_step (fail))); refine wpQuiet_nil ?_; intro _ hw'; obtain ⟨uq, hw''⟩ := hw'; subst hw'')
  have H1 := hide (H0.out.keep uq.keep)
  obtain ⟨z0, z1, z2, z3, z4, z5, z6, z7, z8, z9⟩ := zero_all H1.out
  obtain ⟨g0, g1, g2, g3, g4, g5, g6, g7, g8, g9⟩ := free_all H1.out
  have h3 := hide (set10g H1.out (.int .i64 0) (.int .i64 0) (.int .i64 0) (.int .i64 0) (.int .i64 0) (.int .i64 0) (.int .i64 0) (.int .i64 0) (.int .i64 0) (.slice none 0 0))
  clear H1
  go_wp2
  refine bodyPost_ret (ret_refpic h3.out rfl) rfl ?_
  exact ⟨rfl, h3.out.drop.toKeep⟩
set_option maxRecDepth 100000 in
theorem Ref_Parse_seal (s : ByteArray) (m : Nat) (hs : s.size = m + 8) (h3 : 3 ≤ m) (h5 : m ≤ 99000) (hne : beB (hashN (s.extract 0 m).data.toList) 8 ≠ (s.extract m (m + 8)).data.toList) (w : World) :
    Calls Tryd.prog 15 #[.string s] w fun r w' => RefNo 8 w r w' := by
  obtain ⟨n, hn⟩ : ∃ n, s.size = n := ⟨_, rfl⟩
  have hnm : n = m + 8 := by rw [← hn]; exact hs
  rw [← hnm] at hne
  have f1 : IntKind.i64.wrap ((n : Int) - 8) = (m : Int) := by rw [IntWalk.i64_in _ (by omega)]; omega
  have f2 : decide ((n : Int) < 11) = false := decide_eq_false (by omega)
  have f3 : (m : Int) ≤ n := by omega
  have hH := hide (Ref_HashK (s.extract 0 m) (by rw [ByteArray.size_extract]; omega))
  have hhl := hashN_lt (s.extract 0 m).data.toList
  obtain ⟨hv, hhv⟩ : ∃ hv, hashN (s.extract 0 m).data.toList = hv := ⟨_, rfl⟩
  rw [hhv] at hH hhl hne
  obtain ⟨sc, hsc⟩ : ∃ sc : ByteArray, ⟨(beB hv 8).toArray⟩ = sc := ⟨_, rfl⟩
  have nC := hide (fun w => Ref_bytes8 hv sc hsc hhl w)
  have hd : (sc.toList == (s.extract m n).toList) = false := by
    rw [beq_eq_false_iff_ne, ByteArray.toList_eq, ByteArray.toList_eq, ← hsc]
    exact hne
  clear hs hnm hne hhv hsc h3 h5
  have H0 := hide ((Holds.start w).alloc (o := .cells zeroP 37))
  go_enter Tryd.func15, Tryd.ntmps15
  go_wp2
  (refine wp_region_kept (by kernel_rfl) (by kernel_rfl) ?_; (repeat (go_big_quiet_step ((first | (go_at_call 32; with_reducible exact KeptOf.calls (hH.out _)) | (go_at_call 31; with_reducible exact KeptOf.calls (nC.out _)))))); refine wpQuiet_nil ?_; intro _ hw'; obtain ⟨uq, hw''⟩ := hw'; subst hw'')
  have H1 := hide (H0.out.keep uq.keep)
  obtain ⟨z0, z1, z2, z3, z4, z5, z6, z7, z8, z9⟩ := zero_all H1.out
  obtain ⟨g0, g1, g2, g3, g4, g5, g6, g7, g8, g9⟩ := free_all H1.out
  have h3 := hide (set10g H1.out (.int .i64 0) (.int .i64 0) (.int .i64 0) (.int .i64 0) (.int .i64 0) (.int .i64 0) (.int .i64 0) (.int .i64 0) (.int .i64 0) (.slice none 0 0))
  clear H1
  go_wp2
  refine bodyPost_ret (ret_refpic h3.out rfl) rfl ?_
  exact ⟨rfl, h3.out.drop.toKeep⟩
theorem pre_cases (s : ByteArray) (h : 3 ≤ s.size) (b0 b1 b2 : Nat) (h0 : (s[0]'(by omega)).toNat = b0) (h1 : (s[1]'(by omega)).toNat = b1) (h2 : (s[2]'(by omega)).toNat = b2) :
    (s.extract 0 3).data.toList = hd0 ↔ b0 = 67 ∧ b1 = 87 ∧ b2 = 1 := by
  have e : (s.extract 0 3).data.toList = [s[0]'(by omega), s[1]'(by omega), s[2]'(by omega)] := by
    rw [ext_list, List.drop_zero]
    have hl : 3 ≤ s.data.toList.length := by rw [Array.length_toList]; exact h
    apply List.ext_getElem
    · rw [List.length_take]; simp; omega
    · intro i hi1 hi2
      have : i < 3 := by simpa using hi2
      rw [List.getElem_take]
      match i, this with
      | 0, _ => rfl
      | 1, _ => rfl
      | 2, _ => rfl
  rw [e, ← h0, ← h1, ← h2]
  unfold hd0
  simp only [List.cons.injEq, and_true]
  constructor
  · rintro ⟨a, b, c⟩
    rw [a, b, c]
    decide
  · rintro ⟨a, b, c⟩
    exact ⟨UInt8.toNat_inj.1 a, UInt8.toNat_inj.1 b, UInt8.toNat_inj.1 c⟩
set_option maxRecDepth 100000 in
theorem Ref_Parse_version (s : ByteArray) (m : Nat) (hs : s.size = m + 8) (h3 : 3 ≤ m) (h5 : m ≤ 99000) (heq : beB (hashN (s.extract 0 m).data.toList) 8 = (s.extract m (m + 8)).data.toList) (hpre : (s.extract 0 3).data.toList ≠ hd0) (w : World) :
    Calls Tryd.prog 15 #[.string s] w fun r w' => RefNo 9 w r w' := by
  have z3 : 3 ≤ s.size := by omega
  have l0 : 0 < s.size := by omega
  have l1 : 1 < s.size := by omega
  have l2 : 2 < s.size := by omega
  obtain ⟨b0, hb0⟩ : ∃ b, (s[0]'l0).toNat = b := ⟨_, rfl⟩
  obtain ⟨b1, hb1⟩ : ∃ b, (s[1]'l1).toNat = b := ⟨_, rfl⟩
  obtain ⟨b2, hb2⟩ : ∃ b, (s[2]'l2).toNat = b := ⟨_, rfl⟩
  rw [ne_eq, pre_cases s z3 b0 b1 b2 hb0 hb1 hb2] at hpre
  have hc : (¬ b0 = 67) ∨ (b0 = 67 ∧ ¬ b1 = 87) ∨ (b0 = 67 ∧ b1 = 87 ∧ ¬ b2 = 1) := by omega
  clear hpre z3
  obtain ⟨n, hn⟩ : ∃ n, s.size = n := ⟨_, rfl⟩
  have hnm : n = m + 8 := by rw [← hn]; exact hs
  rw [← hnm] at heq
  have f1 : IntKind.i64.wrap ((n : Int) - 8) = (m : Int) := by rw [IntWalk.i64_in _ (by omega)]; omega
  have f2 : decide ((n : Int) < 11) = false := decide_eq_false (by omega)
  have f3 : (m : Int) ≤ n := by omega
  have f4 : (3 : Int) ≤ m := by omega
  have hH := hide (Ref_HashK (s.extract 0 m) (by rw [ByteArray.size_extract]; omega))
  have hhl := hashN_lt (s.extract 0 m).data.toList
  obtain ⟨hv, hhv⟩ : ∃ hv, hashN (s.extract 0 m).data.toList = hv := ⟨_, rfl⟩
  rw [hhv] at hH hhl heq
  obtain ⟨sc, hsc⟩ : ∃ sc : ByteArray, ⟨(beB hv 8).toArray⟩ = sc := ⟨_, rfl⟩
  have nC := hide (fun w => Ref_bytes8 hv sc hsc hhl w)
  have hd : (sc.toList == (s.extract m n).toList) = true := by
    rw [beq_iff_eq, ByteArray.toList_eq, ByteArray.toList_eq, ← hsc]
    exact heq
  clear hs hnm heq hhv hsc
  have H0 := hide ((Holds.start w).alloc (o := .cells zeroP 37))
  rcases hc with h | ⟨rfl, h⟩ | ⟨rfl, rfl, h⟩
  · have g0 : ((b0 : Int) != 67) = true := by (rw [bne_iff_ne]; omega)
    clear h
    go_enter Tryd.func15, Tryd.ntmps15
    go_wp2
    (refine wp_region_kept (by kernel_rfl) (by kernel_rfl) ?_; (repeat (go_big_quiet_step ((first | (go_at_call 32; with_reducible exact KeptOf.calls (hH.out _)) | (go_at_call 31; with_reducible exact KeptOf.calls (nC.out _)))))); refine wpQuiet_nil ?_; intro _ hw'; obtain ⟨uq, hw''⟩ := hw'; subst hw'')
    have HQ := hide (H0.out.keep uq.keep)
    have HQ1 := HQ.out
    obtain ⟨z0, z1, z2, z3, z4, z5, z6, z7, z8, z9⟩ := zero_all HQ1
    obtain ⟨k0, k1, k2, k3, k4, k5, k6, k7, k8, k9⟩ := free_all HQ1
    have h3 := hide (set10g HQ1 (.int .i64 0) (.int .i64 0) (.int .i64 0) (.int .i64 0) (.int .i64 0) (.int .i64 0) (.int .i64 0) (.int .i64 0) (.int .i64 0) (.slice none 0 0))
    clear HQ1
    go_wp2
    refine bodyPost_ret (ret_refpic h3.out rfl) rfl ?_
    exact ⟨rfl, h3.out.drop.toKeep⟩
  · have g1 : ((b1 : Int) != 87) = true := by (rw [bne_iff_ne]; omega)
    clear h
    go_enter Tryd.func15, Tryd.ntmps15
    go_wp2
    (refine wp_region_kept (by kernel_rfl) (by kernel_rfl) ?_; (repeat (go_big_quiet_step ((first | (go_at_call 32; with_reducible exact KeptOf.calls (hH.out _)) | (go_at_call 31; with_reducible exact KeptOf.calls (nC.out _)))))); refine wpQuiet_nil ?_; intro _ hw'; obtain ⟨uq, hw''⟩ := hw'; subst hw'')
    have HQ := hide (H0.out.keep uq.keep)
    have HQ1 := HQ.out
    obtain ⟨z0, z1, z2, z3, z4, z5, z6, z7, z8, z9⟩ := zero_all HQ1
    obtain ⟨k0, k1, k2, k3, k4, k5, k6, k7, k8, k9⟩ := free_all HQ1
    have h3 := hide (set10g HQ1 (.int .i64 0) (.int .i64 0) (.int .i64 0) (.int .i64 0) (.int .i64 0) (.int .i64 0) (.int .i64 0) (.int .i64 0) (.int .i64 0) (.slice none 0 0))
    clear HQ1
    go_wp2
    refine bodyPost_ret (ret_refpic h3.out rfl) rfl ?_
    exact ⟨rfl, h3.out.drop.toKeep⟩
  · have g2 : ((b2 : Int) != 1) = true := by (rw [bne_iff_ne]; omega)
    clear h
    go_enter Tryd.func15, Tryd.ntmps15
    go_wp2
    (refine wp_region_kept (by kernel_rfl) (by kernel_rfl) ?_; (repeat (go_big_quiet_step ((first | (go_at_call 32; with_reducible exact KeptOf.calls (hH.out _)) | (go_at_call 31; with_reducible exact KeptOf.calls (nC.out _)))))); refine wpQuiet_nil ?_; intro _ hw'; obtain ⟨uq, hw''⟩ := hw'; subst hw'')
    have HQ := hide (H0.out.keep uq.keep)
    have HQ1 := HQ.out
    obtain ⟨z0, z1, z2, z3, z4, z5, z6, z7, z8, z9⟩ := zero_all HQ1
    obtain ⟨k0, k1, k2, k3, k4, k5, k6, k7, k8, k9⟩ := free_all HQ1
    have h3 := hide (set10g HQ1 (.int .i64 0) (.int .i64 0) (.int .i64 0) (.int .i64 0) (.int .i64 0) (.int .i64 0) (.int .i64 0) (.int .i64 0) (.int .i64 0) (.slice none 0 0))
    clear HQ1
    go_wp2
    refine bodyPost_ret (ret_refpic h3.out rfl) rfl ?_
    exact ⟨rfl, h3.out.drop.toKeep⟩
end Go.Proofs.YtggeppmiifkikaaDoor
