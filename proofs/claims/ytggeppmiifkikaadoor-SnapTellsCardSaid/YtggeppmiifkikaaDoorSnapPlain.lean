/- What is printed is parsed, what is parsed is printed; one byte turned turns the seal: with no program in sight. -/
import Derived.Test.YtggeppmiifkikaaDoorSnapParse
namespace Go.Proofs.YtggeppmiifkikaaDoor
open Go Go.RowKit Go.Shelf

theorem numL_acc2 : ∀ (l : List UInt8) (a : Nat), l.foldl (fun v c => 256 * v + c.toNat) a = 256 ^ l.length * a + numL l
  | [], a => by simp [numL]
  | c :: l, a => by
    have h1 := numL_acc2 l (256 * a + c.toNat)
    have h2 := numL_acc2 l (256 * 0 + c.toNat)
    have e : numL (c :: l) = l.foldl (fun v c => 256 * v + c.toNat) (256 * 0 + c.toNat) := rfl
    rw [List.foldl_cons, h1, e, h2, List.length_cons, Nat.pow_succ, Nat.mul_add, Nat.mul_add]
    have : 256 ^ l.length * (256 * a) = 256 ^ l.length * 256 * a := by rw [Nat.mul_assoc]
    omega
theorem snoc_ind {α : Type} {P : List α → Prop} (h0 : P []) (h1 : ∀ l a, P l → P (l ++ [a])) (l : List α) : P l := by
  have h : ∀ r : List α, P r.reverse := fun r => by
    induction r with
    | nil => exact h0
    | cons a r ih => rw [List.reverse_cons]; exact h1 _ _ ih
  rw [← List.reverse_reverse l]
  exact h _
theorem numL_cons (c : UInt8) (l : List UInt8) : numL (c :: l) = 256 ^ l.length * c.toNat + numL l := by
  rw [numL, List.foldl_cons, numL_acc2]
  simp
theorem beB_succ (v n : Nat) : beB v (n + 1) = UInt8.ofNat (v / 256 ^ n % 256) :: beB v n := rfl
theorem beB_mod (v : Nat) : ∀ n m, n ≤ m → beB (v % 256 ^ m) n = beB v n
  | 0, _, _ => rfl
  | n + 1, m, h => by
    rw [beB_succ, beB_succ, beB_mod v n m (by omega)]
    congr 2
    obtain ⟨d, rfl⟩ : ∃ d, m = n + 1 + d := ⟨m - (n + 1), by omega⟩
    rw [show (256 : Nat) ^ (n + 1 + d) = 256 ^ n * (256 * 256 ^ d) by rw [Nat.pow_add, Nat.pow_succ, Nat.mul_assoc]]
    rw [Nat.mod_mul_right_div_self, Nat.mod_mul_right_mod]
theorem numL_beB (v : Nat) : ∀ n, numL (beB v n) = v % 256 ^ n
  | 0 => by simp [beB, beN, numL, Nat.mod_one]
  | n + 1 => by
    rw [beB_succ, numL_cons, numL_beB v n, beB_length, UInt8.toNat_ofNat']
    have h1 : v / 256 ^ n % 256 % 2 ^ 8 = v / 256 ^ n % 256 := Nat.mod_eq_of_lt (by omega)
    rw [h1, Nat.pow_succ]
    have := Nat.mod_mul (x := v) (a := 256 ^ n) (b := 256)
    rw [this]
    omega
theorem beB_numL : ∀ l : List UInt8, beB (numL l) l.length = l
  | [] => rfl
  | c :: l => by
    rw [List.length_cons, beB_succ, numL_cons]
    have hl : numL l < 256 ^ l.length := numL_lt l
    have hpos : 0 < 256 ^ l.length := Nat.pow_pos (by decide)
    have e1 : (256 ^ l.length * c.toNat + numL l) / 256 ^ l.length = c.toNat := by
      rw [Nat.mul_add_div hpos, Nat.div_eq_of_lt hl, Nat.add_zero]
    have e2 : beB (256 ^ l.length * c.toNat + numL l) l.length = l := by
      rw [← beB_mod _ l.length l.length (Nat.le_refl _), Nat.mul_add_mod, Nat.mod_eq_of_lt hl]
      exact beB_numL l
    rw [e1, e2, Nat.mod_eq_of_lt (UInt8.toNat_lt c), UInt8.ofNat_toNat]
theorem numD_be (v n : Nat) (r : List UInt8) (h : v < 256 ^ n) (h2 : v < 9223372036854775808) : numD n (beB v n ++ r) = some (v, r) := by
  have hl := beB_length v n
  have ht : (beB v n ++ r).take n = beB v n := List.take_left' hl
  have hd : (beB v n ++ r).drop n = r := List.drop_left' hl
  have hn : numL (beB v n) = v := by rw [numL_beB, Nat.mod_eq_of_lt h]
  rw [numD_some (by rw [List.length_append, hl]; omega) (by rw [ht, hn]; exact h2), ht, hd, hn]
theorem numD_inv {v n : Nat} {r r1 : List UInt8} (h : numD n r = some (v, r1)) : r = beB v n ++ r1 := by
  unfold numD at h
  split at h
  · rename_i hc
    cases h
    have hl : (r.take n).length = n := by rw [List.length_take]; omega
    have := beB_numL (r.take n)
    rw [hl] at this
    rw [this, List.take_append_drop]
  · cases h
theorem txtD_app (t r : List UInt8) : txtD t.length (t ++ r) = some (t, r) := by
  unfold txtD
  rw [if_pos (by rw [List.length_append]; omega), List.take_left' rfl, List.drop_left' rfl]
theorem txtD_inv {n : Nat} {r r1 t : List UInt8} (h : txtD n r = some (t, r1)) : r = t ++ r1 ∧ t.length = n := by
  unfold txtD at h
  split at h
  · cases h
    exact ⟨(List.take_append_drop _ _).symm, by rw [List.length_take]; omega⟩
  · cases h
theorem ba_eta (s : ByteArray) : (⟨s.data.toList.toArray⟩ : ByteArray) = s := rfl
theorem ba_len (s : ByteArray) : s.data.toList.length = s.size := rfl
theorem itD_it (x : It) (r : List UInt8) (hk : x.key.size < 256) (hv : x.val.size < 65536) (h0 : 0 ≤ x.dl) (h1 : x.dl < 9223372036854775808) : itD (itB x ++ r) = some (x, r) := by
  unfold itD itB
  simp only [List.append_assoc]
  rw [numD_be _ 1 _ (by omega) (by omega)]
  simp only [Option.bind_some]
  rw [← ba_len x.key, txtD_app]
  simp only [Option.bind_some]
  rw [numD_be _ 2 _ (by omega) (by omega)]
  simp only [Option.bind_some]
  rw [← ba_len x.val, txtD_app]
  simp only [Option.bind_some]
  rw [numD_be _ 8 _ (by omega) (by omega)]
  simp only [Option.bind_some]
  obtain ⟨k, v, d⟩ := x
  have : ((d.toNat : Nat) : Int) = d := by dsimp only at h0; omega
  simp only [this]
theorem itD_inv {r r1 : List UInt8} {x : It} (h : itD r = some (x, r1)) : r = itB x ++ r1 ∧ 0 ≤ x.dl ∧ x.dl < 9223372036854775808 := by
  unfold itD at h
  simp only [Option.bind_eq_some_iff, Prod.exists] at h
  obtain ⟨n1, r1', h1, k, r2, h2, n2, r3, h3, v, r4, h4, d, r5, h5, h6⟩ := h
  cases h6
  have e1 := numD_inv h1
  obtain ⟨e2, l2⟩ := txtD_inv h2
  have e3 := numD_inv h3
  obtain ⟨e4, l4⟩ := txtD_inv h4
  have e5 := numD_inv h5
  have e6 := (numD_le h5).2
  refine ⟨?_, by simp, by dsimp only; omega⟩
  have k1 : (⟨k.toArray⟩ : ByteArray).size = n1 := by rw [ba_size, l2]
  have k2 : (⟨v.toArray⟩ : ByteArray).size = n2 := by rw [ba_size, l4]
  unfold itB
  dsimp only
  rw [k1, k2, e1, e2, e3, e4, e5]
  simp
theorem itsD_its : ∀ (xs : List It), (∀ x ∈ xs, x.key.size < 256 ∧ x.val.size < 65536 ∧ 0 ≤ x.dl ∧ x.dl < 9223372036854775808) → ∀ r', itsD xs.length (xs.flatMap itB ++ r') = some (xs, r') := by
  intro xs
  refine snoc_ind (P := fun xs : List It => (∀ x ∈ xs, x.key.size < 256 ∧ x.val.size < 65536 ∧ 0 ≤ x.dl ∧ x.dl < 9223372036854775808) → ∀ r', itsD xs.length (xs.flatMap itB ++ r') = some (xs, r')) ?_ ?_ xs
  · intro _ r'; rfl
  · intro xs x ih h r'
    rw [List.length_append, List.length_singleton, itsD, List.flatMap_append, List.append_assoc, ih (fun y hy => h y (by simp [hy]))]
    simp only [Option.bind_some, List.flatMap_cons, List.flatMap_nil, List.append_nil]
    obtain ⟨a, b, c, d⟩ := h x (by simp)
    rw [itD_it x r' a b c d]
    rfl
theorem itsD_inv : ∀ {k : Nat} {r r1 : List UInt8} {xs : List It}, itsD k r = some (xs, r1) → r = xs.flatMap itB ++ r1 ∧ ∀ x ∈ xs, 0 ≤ x.dl ∧ x.dl < 9223372036854775808
  | 0, r, r1, xs, h => by cases h; simp
  | k + 1, r, r1, xs, h => by
    rw [itsD] at h
    simp only [Option.bind_eq_some_iff, Prod.exists] at h
    obtain ⟨ys, r2, h1, x, r3, h2, h3⟩ := h
    cases h3
    obtain ⟨e1, f1⟩ := itsD_inv h1
    obtain ⟨e2, f2⟩ := itD_inv h2
    refine ⟨by rw [e1, e2]; simp, fun y hy => ?_⟩
    rcases List.mem_append.1 hy with hy | hy
    · exact f1 y hy
    · rw [List.mem_singleton.1 hy]; exact f2
theorem hdD_hd : ∀ (us : List Nat), (∀ u ∈ us, u < 9223372036854775808) → ∀ r', hdD us.length (us.flatMap (fun u => beB u 8) ++ r') = some (us, r') := by
  intro us
  refine snoc_ind (P := fun us : List Nat => (∀ u ∈ us, u < 9223372036854775808) → ∀ r', hdD us.length (us.flatMap (fun u => beB u 8) ++ r') = some (us, r')) ?_ ?_ us
  · intro _ r'; rfl
  · intro us u ih h r'
    rw [List.length_append, List.length_singleton, hdD, List.flatMap_append, List.append_assoc, ih (fun y hy => h y (by simp [hy]))]
    simp only [Option.bind_some, List.flatMap_cons, List.flatMap_nil, List.append_nil]
    have := h u (by simp)
    rw [numD_be u 8 r' (by omega) this]
    rfl
theorem hdD_inv : ∀ {k : Nat} {r r1 : List UInt8} {us : List Nat}, hdD k r = some (us, r1) → r = us.flatMap (fun u => beB u 8) ++ r1 ∧ us.length = k
  | 0, r, r1, us, h => by cases h; simp
  | k + 1, r, r1, us, h => by
    rw [hdD] at h
    simp only [Option.bind_eq_some_iff, Prod.exists] at h
    obtain ⟨ys, r2, h1, x, r3, h2, h3⟩ := h
    cases h3
    obtain ⟨e1, f1⟩ := hdD_inv h1
    have e2 := numD_inv h2
    exact ⟨by rw [e1, e2]; simp, by simp [f1]⟩
/-- What stands between the begin and the seal. -/
def midB (p : Pic) : List UInt8 := (headL p).flatMap be8 ++ p.items.flatMap itB
theorem body_mid (p : Pic) : bodyB p = hd0 ++ midB p := by
  unfold bodyB headB headK midB
  rw [show (headL p).take 10 = headL p from rfl, List.append_assoc]
theorem seal_split (B : List UInt8) : (B ++ beB (hashN B) 8).length - 8 = B.length ∧ (B ++ beB (hashN B) 8).take ((B ++ beB (hashN B) 8).length - 8) = B ∧ (B ++ beB (hashN B) 8).drop ((B ++ beB (hashN B) 8).length - 8) = beB (hashN B) 8 := by
  have h : (B ++ beB (hashN B) 8).length - 8 = B.length := by rw [List.length_append, beB_length]; omega
  rw [h]
  exact ⟨rfl, List.take_left' rfl, List.drop_left' rfl⟩
theorem be8_nat (l : List Int) (h : ∀ x ∈ l, 0 ≤ x) : l.flatMap be8 = (l.map Int.toNat).flatMap (fun u => beB u 8) := by
  rw [List.flatMap_map]
  rfl
theorem dec_mid {p : Pic} (hp : Fine p) : decD (midB p) = some p := by
  have hb := fun k => head_bound hp k
  obtain ⟨hk, hn, hs⟩ := fine_rest hp
  have b0 := hb 0; have b1 := hb 1; have b2 := hb 2; have b3 := hb 3; have b4 := hb 4; have b5 := hb 5; have b6 := hb 6; have b7 := hb 7; have b8 := hb 8; have b9 := hb 9
  have ei : midB p = ([p.c.size.toNat, p.c.shift.toNat, p.c.window.toNat, p.c.margin.toNat, p.c.hold.toNat, p.c.quota.toNat, (p.c.pin + 1).toNat, p.kind.toNat, p.now.toNat] : List Nat).flatMap (fun u => beB u 8) ++ (beB p.items.length 8 ++ (p.items.flatMap itB ++ [])) := by
    unfold midB headL be8
    simp
  simp only [headL, List.getD_cons_zero, List.getD_cons_succ] at b0 b1 b2 b3 b4 b5 b6 b7 b8 b9
  rw [ei]
  unfold decD
  rw [show (9 : Nat) = ([p.c.size.toNat, p.c.shift.toNat, p.c.window.toNat, p.c.margin.toNat, p.c.hold.toNat, p.c.quota.toNat, (p.c.pin + 1).toNat, p.kind.toNat, p.now.toNat] : List Nat).length from rfl]
  rw [hdD_hd _ (by
    intro u hu
    simp only [List.mem_cons, List.not_mem_nil, or_false] at hu
    rcases hu with rfl | rfl | rfl | rfl | rfl | rfl | rfl | rfl | rfl <;> omega)]
  simp only [Option.bind_some]
  rw [numD_be _ 8 _ (by omega) (by omega)]
  simp only [Option.bind_some]
  rw [itsD_its _ (fun x hx => by
    obtain ⟨k, hk⟩ := List.getElem?_of_mem hx
    obtain ⟨a, b, c, d⟩ := fine_item hp hk
    exact ⟨by omega, by omega, c, by omega⟩)]
  simp only [Option.bind_some, if_true]
  obtain ⟨⟨size, shift, window, margin, hold, quota, pin⟩, kind, now, items⟩ := p
  dsimp only at b0 b1 b2 b3 b4 b5 b6 b7 b8
  simp only [picOf, List.getD_cons_zero, List.getD_cons_succ, Option.some.injEq, Pic.mk.injEq, Cfg.mk.injEq, and_true]
  refine ⟨⟨by omega, by omega, by omega, by omega, by omega, by omega, by omega⟩, by omega, by omega⟩
theorem parse_print {p : Pic} (hp : Fine p) : parseM (printB p) = .ok p := by
  obtain ⟨h1, h2, h3⟩ := seal_split (bodyB p)
  have hl : (printB p).length = (bodyB p).length + 8 := by unfold printB; rw [List.length_append, beB_length]
  have hm : 80 ≤ (midB p).length := by
    unfold midB headL be8
    simp [beB_length]
    omega
  have hbl : (bodyB p).length = 3 + (midB p).length := by rw [body_mid, List.length_append]; rfl
  have hs : sealed (printB p) := by
    refine ⟨by omega, ?_⟩
    unfold printB
    rw [h2, h3]
  have ht : (printB p).take 3 = hd0 := by
    unfold printB
    rw [body_mid, List.append_assoc]
    rfl
  have hb : bodyOf (printB p) = midB p := by
    unfold bodyOf printB
    rw [h2, body_mid]
    rfl
  unfold parseM
  rw [if_neg (fun h => h hs), if_neg (fun h => h ht), hb, dec_mid hp]
  simp only
  rw [hp.err]
  rfl
theorem picE_isNil {p : Pic} (h : (picE p).isNil = true) : picE p = .nil := by
  cases hp : picE p with
  | nil => rfl
  | no n => rw [hp] at h; cases h
  | fault o k e => rw [hp] at h; cases h
theorem dec_inv {r : List UInt8} {p : Pic} (h : decD r = some p) : r = midB p ∧ ∀ x ∈ p.items, 0 ≤ x.dl ∧ x.dl < 9223372036854775808 := by
  unfold decD at h
  simp only [Option.bind_eq_some_iff, Prod.exists] at h
  obtain ⟨us, r1, h1, c, r2, h2, xs, r3, h3, h4⟩ := h
  split at h4
  · rename_i hr
    cases h4
    subst hr
    obtain ⟨e1, l1⟩ := hdD_inv h1
    have e2 := numD_inv h2
    obtain ⟨e3, f3⟩ := itsD_inv h3
    have l3 := (itsD_le h3).2
    refine ⟨?_, f3⟩
    match us, l1 with
    | [u0, u1, u2, u3, u4, u5, u6, u7, u8], _ =>
      rw [e1, e2, e3]
      unfold midB headL be8 picOf
      simp only [List.getD_cons_zero, List.getD_cons_succ, Int.sub_add_cancel, l3]
      simp
  · cases h4
/-- What is parsed is printed to these very bytes. -/
theorem print_parse {L : List UInt8} {p : Pic} (h : parseM L = .ok p) (hl : L.length ≤ 90000) : printB p = L ∧ Fine p := by
  unfold parseM at h
  by_cases hs : sealed L
  · by_cases ht : L.take 3 = hd0
    · rw [if_neg (fun h => h hs), if_neg (fun h => h ht)] at h
      cases hd : decD (bodyOf L) with
      | none => rw [hd] at h; cases h
      | some q =>
        rw [hd] at h
        simp only at h
        by_cases hn : (picE q).isNil = true
        · rw [if_pos hn] at h
          cases h
          obtain ⟨e, f⟩ := dec_inv hd
          obtain ⟨h11, hh⟩ := hs
          have hb : bodyB p = L.take (L.length - 8) := by
            rw [body_mid, ← e]
            unfold bodyOf
            rw [← ht, ← List.take_append_drop 3 (L.take (L.length - 8))]
            congr 1
            · rw [List.take_take, Nat.min_eq_left (by omega)]
            · rw [List.take_append_drop]
          have hpr : printB p = L := by
            unfold printB
            rw [hb, hh, List.take_append_drop]
          refine ⟨hpr, picE_isNil hn, fun x hx => ⟨(f x hx).1, by have := (f x hx).2; omega⟩, ?_⟩
          rw [hb, List.length_take]
          omega
        · rw [if_neg hn] at h; cases h
    · rw [if_neg (fun h => h hs), if_pos ht] at h; cases h
  · rw [if_pos hs] at h; cases h

/-! ### The seal -/
theorem mul_inj {x y : Nat} (hx : x < 18446744073709551616) (hy : y < 18446744073709551616) (m i : Nat) (hi : i * m % 18446744073709551616 = 1) (h : m * x % 18446744073709551616 = m * y % 18446744073709551616) : x = y := by
  have k : ∀ z, z < 18446744073709551616 → i * (m * z % 18446744073709551616) % 18446744073709551616 = z := fun z hz => by
    rw [Nat.mul_mod, Nat.mod_mod, ← Nat.mul_mod, ← Nat.mul_assoc, Nat.mul_mod, hi, Nat.one_mul, Nat.mod_mod, Nat.mod_eq_of_lt hz]
  rw [← k x hx, ← k y hy, h]
theorem hmix_lt {h : Nat} (hh : h < 18446744073709551616) : hmix h < 18446744073709551616 := by
  unfold hmix
  exact Nat.xor_lt_two_pow (n := 64) hh (by omega)
theorem hmix_hmix {h : Nat} (hh : h < 18446744073709551616) : hmix (hmix h) = h := by
  unfold hmix
  have e : (h ^^^ h / 8589934592) / 8589934592 = h / 8589934592 := by
    rw [show (8589934592 : Nat) = 2 ^ 33 from rfl, ← Nat.shiftRight_eq_div_pow, ← Nat.shiftRight_eq_div_pow, Nat.shiftRight_xor_distrib, ← Nat.shiftRight_add]
    have : h >>> (33 + 33) = 0 := by rw [Nat.shiftRight_eq_div_pow]; exact Nat.div_eq_of_lt (by omega)
    rw [this, Nat.xor_zero]
  rw [e, Nat.xor_assoc, Nat.xor_self, Nat.xor_zero]
theorem hmix_inj {x y : Nat} (hx : x < 18446744073709551616) (hy : y < 18446744073709551616) (h : hmix x = hmix y) : x = y := by
  rw [← hmix_hmix hx, ← hmix_hmix hy, h]
theorem xor_lt8 {h c : Nat} (hh : h < 18446744073709551616) (hc : c < 256) : h ^^^ c < 18446744073709551616 := Nat.xor_lt_two_pow (n := 64) hh (by omega)
theorem xor_right_inj {a b c : Nat} (h : a ^^^ b = a ^^^ c) : b = c := by
  have : a ^^^ (a ^^^ b) = a ^^^ (a ^^^ c) := by rw [h]
  rwa [← Nat.xor_assoc, ← Nat.xor_assoc, Nat.xor_self, Nat.zero_xor, Nat.zero_xor] at this
theorem hstep_lt (h c : Nat) : hstep h c < 18446744073709551616 := Nat.mod_lt _ (by decide)
theorem hstep_inj {h h' c c' : Nat} (hh : h < 18446744073709551616) (hh' : h' < 18446744073709551616) (hc : c < 256) (hc' : c' < 256) (e : hstep h c = hstep h' c') : h ^^^ c = h' ^^^ c' := by
  unfold hstep at e
  exact mul_inj (xor_lt8 hh hc) (xor_lt8 hh' hc') 1099511628211 14886173955864302971 (by decide) e
theorem fold_lt : ∀ (l : List UInt8) (h : Nat), h < 18446744073709551616 → l.foldl (fun h c => hstep h c.toNat) h < 18446744073709551616
  | [], h, hh => hh
  | c :: l, h, _ => fold_lt l _ (hstep_lt _ _)
theorem fold_inj : ∀ (l : List UInt8) (h h' : Nat), h < 18446744073709551616 → h' < 18446744073709551616 → l.foldl (fun h c => hstep h c.toNat) h = l.foldl (fun h c => hstep h c.toNat) h' → h = h'
  | [], _, _, _, _, e => e
  | c :: l, h, h', hh, hh', e => by
    have := fold_inj l _ _ (hstep_lt h c.toNat) (hstep_lt h' c.toNat) e
    have := hstep_inj hh hh' (UInt8.toNat_lt c) (UInt8.toNat_lt c) this
    rw [Nat.xor_comm h, Nat.xor_comm h'] at this
    exact xor_right_inj this
theorem hfold_turn (a l : List UInt8) (c c' : UInt8) (h : hfold (a ++ c :: l) = hfold (a ++ c' :: l)) : c = c' := by
  unfold hfold at h
  rw [List.foldl_append, List.foldl_append, List.foldl_cons, List.foldl_cons] at h
  have hA := fold_lt a 14695981039346656037 (by decide)
  have := fold_inj l _ _ (hstep_lt _ _) (hstep_lt _ _) h
  have := hstep_inj hA hA (UInt8.toNat_lt c) (UInt8.toNat_lt c') this
  exact UInt8.toNat_inj.1 (xor_right_inj this)
theorem hash_turn (a l : List UInt8) (c c' : UInt8) (h : hashN (a ++ c :: l) = hashN (a ++ c' :: l)) : c = c' := by
  unfold hashN at h
  have l1 := fold_lt (a ++ c :: l) 14695981039346656037 (by decide)
  have l2 := fold_lt (a ++ c' :: l) 14695981039346656037 (by decide)
  have h := hmix_inj (Nat.mod_lt _ (by decide)) (Nat.mod_lt _ (by decide)) h
  have h := mul_inj (hmix_lt l1) (hmix_lt l2) 18397679294719823053 5725274745694666757 (by decide) h
  exact hfold_turn a l c c' (hmix_inj l1 l2 h)
theorem beB_hash_inj {x y : Nat} (hx : x < 18446744073709551616) (hy : y < 18446744073709551616) (h : beB x 8 = beB y 8) : x = y := by
  have h1 := numL_beB x 8
  have h2 := numL_beB y 8
  rw [h, h2] at h1
  rw [Nat.mod_eq_of_lt (by omega), Nat.mod_eq_of_lt (by omega)] at h1
  exact h1.symm
/-- One byte of what is sealed turned: it is sealed no more. -/
theorem unsealed {a l : List UInt8} {c c' : UInt8} (hc : c' ≠ c) (h : sealed (a ++ c :: l)) : ¬ sealed (a ++ c' :: l) := by
  rintro ⟨_, h2⟩
  obtain ⟨h0, h1⟩ := h
  have hL : (a ++ c' :: l).length = (a ++ c :: l).length := by simp
  rw [hL] at h2
  obtain ⟨n, hn⟩ : ∃ n, (a ++ c :: l).length - 8 = n := ⟨_, rfl⟩
  have hn8 : (a ++ c :: l).length = n + 8 := by omega
  rw [hn] at h1 h2
  by_cases hlt : a.length < n
  · have ht : ∀ d, (a ++ d :: l).take n = a ++ d :: l.take (n - a.length - 1) := fun d => by
      rw [List.take_append, List.take_of_length_le (by omega)]
      obtain ⟨m, hm⟩ : ∃ m, n - a.length = m + 1 := ⟨n - a.length - 1, by omega⟩
      rw [hm, List.take_succ_cons]
      rfl
    have hd : ∀ d, (a ++ d :: l).drop n = l.drop (n - a.length - 1) := fun d => by
      rw [List.drop_append, List.drop_of_length_le (by omega), List.nil_append]
      obtain ⟨m, hm⟩ : ∃ m, n - a.length = m + 1 := ⟨n - a.length - 1, by omega⟩
      rw [hm, List.drop_succ_cons]
      rfl
    rw [ht, hd] at h1 h2
    have := beB_hash_inj (hashN_lt _) (hashN_lt _) (h1.trans h2.symm)
    exact hc (hash_turn _ _ _ _ this).symm
  · have ht : ∀ d, (a ++ d :: l).take n = a.take n := fun d => by
      rw [List.take_append_of_le_length (by omega)]
    have hd : ∀ d, (a ++ d :: l).drop n = a.drop n ++ d :: l := fun d => by
      rw [List.drop_append_of_le_length (by omega)]
    rw [ht, hd] at h1 h2
    have := h1.symm.trans h2
    have := List.append_cancel_left this
    injection this with h3 _
    exact hc h3.symm
end Go.Proofs.YtggeppmiifkikaaDoor
