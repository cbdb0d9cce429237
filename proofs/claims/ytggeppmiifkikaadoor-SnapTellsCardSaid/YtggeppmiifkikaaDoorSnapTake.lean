/- snap.Parse's closures: take, get. -/
import Derived.Test.YtggeppmiifkikaaDoorSnapPrint
import Derived.Laws.IdiomStrings
namespace Go.Proofs.YtggeppmiifkikaaDoor
open Go Go.RowKit Go.Shelf

/-! ### What stands in bytes -/
def numL (l : List UInt8) : Nat := l.foldl (fun v c => 256 * v + c.toNat) 0
def numD (n : Nat) (r : List UInt8) : Option (Nat × List UInt8) := if n ≤ r.length ∧ numL (r.take n) < 9223372036854775808 then some (numL (r.take n), r.drop n) else none
def txtD (n : Nat) (r : List UInt8) : Option (List UInt8 × List UInt8) := if n ≤ r.length then some (r.take n, r.drop n) else none
def St (rb bb : Nat) (r : List UInt8) (b : Bool) : SProp := All [pts rb (.cells #[.string ⟨r.toArray⟩] 9), pts bb (.cells #[.bool b] 4)]
theorem Holds.st {g w : World} {rb bb : Nat} {r : List UInt8} {b : Bool} {F : List SProp} (h : Holds g w (St rb bb r b :: F)) : Holds g w (pts rb (.cells #[.string ⟨r.toArray⟩] 9) :: pts bb (.cells #[.bool b] 4) :: F) := h.unall
theorem Holds.toSt {g w : World} {rb bb : Nat} {r : List UInt8} {b : Bool} {F : List SProp} (h : Holds g w (pts rb (.cells #[.string ⟨r.toArray⟩] 9) :: pts bb (.cells #[.bool b] 4) :: F)) : Holds g w (St rb bb r b :: F) := Holds.all (L := [_, _]) h
theorem extract_front (r : List UInt8) (n : Nat) : (⟨r.toArray⟩ : ByteArray).extract 0 n = ⟨(r.take n).toArray⟩ := by
  apply ByteArray.ext
  simp
theorem extract_back (r : List UInt8) (n : Nat) : (⟨r.toArray⟩ : ByteArray).extract n r.length = ⟨(r.drop n).toArray⟩ := by
  apply ByteArray.ext
  simp
  rw [List.take_of_length_le (by simp)]
theorem ba_size (r : List UInt8) : (⟨r.toArray⟩ : ByteArray).size = r.length := by
  show r.toArray.size = _
  simp
/-- take(n): where there is so much. -/
theorem Take_ok {g w : World} {rb bb : Nat} {r : List UInt8} {b : Bool} {F : List SProp} (n : Nat) (hn : n ≤ r.length) (hr : r.length ≤ 10000000) (h : Holds g w (St rb bb r b :: F)) :
    Calls Tryd.prog 35 #[.int .i64 n, .pointer (some ⟨rb, 0, none⟩), .pointer (some ⟨bb, 0, none⟩)] w fun e w' => e = .returned (.string ⟨(r.take n).toArray⟩) ∧ Holds g w' (St rb bb (r.drop n) b :: F) := by
  have h1 := hide h.st
  have c0 := h1.out.cell (off := 0) rfl
  have c1 := h1.out.p1.cell (off := 0) rfl
  have f0 := h1.out.free (off := 0)
  have f1 := h1.out.p1.free (off := 0)
  obtain ⟨s, hs⟩ : ∃ s : ByteArray, ⟨r.toArray⟩ = s := ⟨_, rfl⟩
  have hz : s.size = r.length := by rw [← hs]; exact ba_size r
  obtain ⟨m, hm⟩ : ∃ m, r.length = m := ⟨_, rfl⟩
  have e1 := hide (extract_front r n)
  have e2 := hide (extract_back r n)
  rw [hm] at hn hr hz e2
  rw [hs] at c0 e1 e2
  have hlt : ¬ (m : Int) < n := by omega
  have hlt2 : (n : Int) ≤ m := by omega
  have hs := hide hs
  clear h hm
  go_enter Tryd.func35, Tryd.ntmps35
  go_wp2
  go_ret
  exact ⟨by rw [e1.out]; rfl, Holds.toSt (by have := h1.out.setCell (off := 0) (v := .string ⟨(r.drop n).toArray⟩); rw [e2.out]; exact this)⟩
/-- take(n): where there is less. -/
theorem Take_no {g w : World} {rb bb : Nat} {r : List UInt8} {b : Bool} {F : List SProp} (n : Nat) (hn : r.length < n) (hr : r.length ≤ 10000000) (h : Holds g w (St rb bb r b :: F)) :
    Calls Tryd.prog 35 #[.int .i64 n, .pointer (some ⟨rb, 0, none⟩), .pointer (some ⟨bb, 0, none⟩)] w fun e w' => e = .returned (.string ⟨#[]⟩) ∧ Holds g w' (St rb bb r true :: F) := by
  have h1 := hide h.st
  have c0 := h1.out.cell (off := 0) rfl
  have c1 := h1.out.p1.cell (off := 0) rfl
  have f0 := h1.out.free (off := 0)
  have f1 := h1.out.p1.free (off := 0)
  obtain ⟨s, hs⟩ : ∃ s : ByteArray, ⟨r.toArray⟩ = s := ⟨_, rfl⟩
  have hz : s.size = r.length := by rw [← hs]; exact ba_size r
  obtain ⟨m, hm⟩ : ∃ m, r.length = m := ⟨_, rfl⟩
  rw [hm] at hn hr hz
  rw [hs] at c0
  have hlt : (m : Int) < n := by omega
  have hs := hide hs
  clear h hm
  go_enter Tryd.func35, Tryd.ntmps35
  go_wp2
  go_ret
  exact ⟨rfl, Holds.toSt h1.out.p1.setCell.p1⟩
theorem h2all {g w : World} {A B C : SProp} {F : List SProp} (h : Holds g w (A :: B :: C :: F)) : Holds g w [A, B, C, All F] :=
  h.tail fun _ h => h.cons_mono (fun _ h => h) fun _ h => h.cons_mono (fun _ h => h) fun x h => ⟨x, fun _ => none, fun _ => .inr rfl, by funext i; simp [Frag.add]; cases x i <;> rfl, h, trivial⟩
theorem h2unall {g w : World} {A B C : SProp} {F : List SProp} (h : Holds g w [A, B, C, All F]) : Holds g w (A :: B :: C :: F) :=
  h.tail fun _ h => h.cons_mono (fun _ h => h) fun _ h => h.cons_mono (fun _ h => h) fun x ⟨a, b, d, e, s, _⟩ => e ▸ s.more d
theorem bits_or_u64 (v d : Nat) (hv : v < 256 ^ 7) (hd : d < 2 ^ 8) : bits .or .u64 ((v : Int) * 256) (d : Int) = ((256 * v + d : Nat) : Int) := by
  have e : (v : Int) * 256 = ((256 * v : Nat) : Int) := by omega
  rw [e]
  have h0 : (256 : Nat) ^ 7 = 72057594037927936 := by decide
  have h1 : (BitVec.ofInt 64 ((256 * v : Nat) : Int)).toNat = 256 * v := by
    rw [BitVec.ofInt_natCast, BitVec.toNat_ofNat]; exact Nat.mod_eq_of_lt (by omega)
  have h2 : (BitVec.ofInt 64 (d : Int)).toNat = d := by
    rw [BitVec.ofInt_natCast, BitVec.toNat_ofNat]; exact Nat.mod_eq_of_lt (by omega)
  have h3 : 256 * v ||| d = 256 * v + d := by
    have := Nat.shiftLeft_add_eq_or_of_lt hd v
    rw [Nat.shiftLeft_eq, Nat.mul_comm v] at this
    exact this.symm
  show IntKind.u64.wrap ((BitVec.ofInt 64 ((256 * v : Nat) : Int) ||| BitVec.ofInt 64 (d : Int)).toNat : Int) = _
  rw [BitVec.toNat_or, h1, h2, IntKind.wrap_u64, h3]
  omega
theorem stTail {g w : World} {tb rb bb : Nat} {r : List UInt8} {b : Bool} {o : Obj} {F : List SProp} (h : Holds g w (pts bb (.cells #[.bool b] 4) :: pts rb (.cells #[.string ⟨r.toArray⟩] 9) :: pts tb o :: F)) : Holds g w (pts tb o :: St rb bb r b :: F) :=
  (Holds.toSt h.p1).p1
structure GetR (n : Nat) (r : List UInt8) (b : Bool) (v : Int) (r' : List UInt8) (b' : Bool) : Prop where
  ok : ∀ m r1, b = false → numD n r = some (m, r1) → v = m ∧ r' = r1 ∧ b' = false
  no : numD n r = none → b' = true
  old : b = true → b' = true
  le : r'.length ≤ r.length
  small : n ≤ 2 → 0 ≤ v ∧ v ≤ 65535
theorem numL_snoc (l : List UInt8) (c : UInt8) : numL (l ++ [c]) = 256 * numL l + c.toNat := by
  unfold numL
  rw [List.foldl_append]
  rfl
theorem numL_acc : ∀ (l : List UInt8) (a : Nat), l.foldl (fun v c => 256 * v + c.toNat) a < 256 ^ l.length * (a + 1)
  | [], a => by simp
  | c :: l, a => by
    have := numL_acc l (256 * a + c.toNat)
    have hc := c.toNat_lt
    rw [List.foldl_cons, List.length_cons, Nat.pow_succ, Nat.mul_assoc]
    exact Nat.lt_of_lt_of_le this (Nat.mul_le_mul_left _ (by omega))
theorem numL_lt (l : List UInt8) : numL l < 256 ^ l.length := by have := numL_acc l 0; rwa [Nat.zero_add, Nat.mul_one] at this
theorem numL_bound {l : List UInt8} {k : Nat} (h : l.length ≤ k) : numL l < 256 ^ k := Nat.lt_of_lt_of_le (numL_lt l) (Nat.pow_le_pow_right (by omega) h)
def clo (rb bb : Nat) : Value := .func (.func 35) #[] #[.pointer (some ⟨rb, 0, none⟩), .pointer (some ⟨bb, 0, none⟩)]
set_option maxRecDepth 100000 in
theorem Get_of {g w : World} {tb rb bb : Nat} {r : List UInt8} {b : Bool} {F : List SProp} (n : Nat) (hn8 : n ≤ 8) (t r' : List UInt8) (b1 : Bool) (ht : t.length ≤ n) (h : Holds g w (pts tb (.cells #[clo rb bb] 79) :: St rb bb r b :: F))
    (hT : ∀ w, Holds g w (St rb bb r b :: pts tb (.cells #[clo rb bb] 79) :: F) → Calls Tryd.prog 35 #[.int .i64 n, .pointer (some ⟨rb, 0, none⟩), .pointer (some ⟨bb, 0, none⟩)] w fun e w' => e = .returned (.string ⟨t.toArray⟩) ∧ Holds g w' (St rb bb r' b1 :: pts tb (.cells #[clo rb bb] 79) :: F)) :
    Calls Tryd.prog 36 #[.int .i64 n, .pointer (some ⟨tb, 0, none⟩), .pointer (some ⟨bb, 0, none⟩)] w fun e w' => e = .returned (.int .i64 (IntKind.i64.wrap (numL t))) ∧ Holds g w' (pts tb (.cells #[clo rb bb] 79) :: St rb bb r' (b1 || decide (9223372036854775808 ≤ numL t)) :: F) := by
  have c0 : w.cell? ⟨tb, 0, none⟩ = some (.func (.func 35) #[] #[.pointer (some ⟨rb, 0, none⟩), .pointer (some ⟨bb, 0, none⟩)]) := h.cell rfl
  have h0 := hide h.p1
  have hT := hide hT
  obtain ⟨nt, hnt⟩ : ∃ nt, numL t = nt := ⟨_, rfl⟩
  rw [hnt]
  obtain ⟨bf, hbf⟩ : ∃ bf, (b1 || decide (9223372036854775808 ≤ nt)) = bf := ⟨_, rfl⟩
  rw [hbf]
  replace hnt := hide hnt
  replace hbf := hide hbf
  obtain ⟨s, hs⟩ : ∃ s : ByteArray, ⟨t.toArray⟩ = s := ⟨_, rfl⟩
  have hz : s.size = t.length := by rw [← hs]; exact ba_size t
  rw [hs] at hT
  have hcv := fun w => run_bytes_of_string (P := Tryd.prog) w 9 50 5 s Tryd.underlying9 Tryd.underlying50 Tryd.underlying5
  obtain ⟨m, hm⟩ : ∃ m, t.length = m := ⟨_, rfl⟩
  rw [hm] at hz ht
  have hm := hide hm
  have hs := hide hs
  clear h
  go_enter Tryd.func36, Tryd.ntmps36
  go_wp2_with (go_at_call 35; (with_reducible refine (hT.out _ h0.out).mono ?_); rintro e w1 ⟨rfl, h1⟩; have h1 := hide h1)
  obtain ⟨C, hC⟩ : ∃ C, grownCap w1 m 0 5 = C := ⟨_, rfl⟩
  obtain ⟨q, hq⟩ : ∃ q, w1.heap.size = q := ⟨_, rfl⟩
  have H2 := hide ((h1.out.alloc (o := .cells (bytesRow s C) 5 ((bytesRow s C).size, (bytesRow s C).size + 1))).drew)
  rw [hq] at H2
  simp only [hC, hq]
  clear hC hq hcv
  go_loopw [5, 13] (fun v i wr => ∃ k : Nat, i = .int .i64 k ∧ v = .int .u64 (numL (t.take k)) ∧ k ≤ m ∧ Holds g wr [pts q (.cells (bytesRow s C) 5 ((bytesRow s C).size, (bytesRow s C).size + 1)), St rb bb r' b1, pts tb (.cells #[clo rb bb] 79), All F]) (fun _ i _ => (m - intOf i).toNat)
  case atStart => exact ⟨0, rfl, rfl, Nat.zero_le _, h2all H2.out⟩
  case round =>
    obtain ⟨k, rfl, rfl, hk, hh⟩ := hrel
    have H := hide hh
    clear hh
    by_cases hlt : k < m
    · have hlt' : (k : Int) < m := by omega
      have hkt : k < t.length := by rw [hm.out]; exact hlt
      have hsd : s.data.size = m := hz
      obtain ⟨c, hc⟩ : ∃ c, t[k] = c := ⟨_, rfl⟩
      have hcs : (bytesRow s C)[k]? = some (.int .u8 (c.toNat : Int)) := by
        rw [bytesRow_at s C k (by rw [hsd]; exact hlt)]
        have : s.data[k]'(by rw [hsd]; exact hlt) = c := by rw [← hc]; simp [← hs.out]
        rw [this]
      have hcell := H.out.cell hcs
      have htk : t.take (k + 1) = t.take k ++ [c] := by rw [List.take_add_one, List.getElem?_eq_getElem hkt, hc]; rfl
      have hts := hide (show numL (t.take (k + 1)) = 256 * numL (t.take k) + c.toNat by rw [htk, numL_snoc])
      have hvb : numL (t.take k) < 256 ^ 7 := numL_bound (by rw [List.length_take]; omega)
      have hcb := c.toNat_lt
      obtain ⟨v, hv⟩ : ∃ v, numL (t.take k) = v := ⟨_, rfl⟩
      obtain ⟨d, hd⟩ : ∃ d, c.toNat = d := ⟨_, rfl⟩
      rw [hd] at hcell hts hcb
      rw [hv] at hts hvb
      simp only [hv]
      have f1 := bits_or_u64 v d hvb hcb
      clear hv hd hc htk hcs hsd
      go_wp2
      go_roundw
      case rel => exact ⟨k + 1, by go_num, by rw [hts.out]; go_num, hlt, H.out⟩
      case measure => (simp [intOf] <;> omega)
    · obtain rfl : k = m := by omega
      have htk : t.take k = t := List.take_of_length_le (by rw [hm.out]; exact Nat.le_refl _)
      rw [htk]
      have hvb : numL t < 256 ^ 8 := numL_bound (by rw [hm.out]; omega)
      rw [hnt.out] at hvb
      simp only [hnt.out]
      have H1 := hide (h2unall H.out).drop.st
      have cb : wr.cell? ⟨bb, 0, none⟩ = some (.bool b1) := H1.out.p1.cell (off := 0) rfl
      have fb := H1.out.p1.free (off := 0)
      cases b1
      · by_cases hbig : 9223372036854775808 ≤ nt
        · have f2 : (0 : Int) < (nt : Int) / 9223372036854775808 := by omega
          have e2 : Hide (true = bf) := ⟨by rw [← hbf.out, decide_eq_true hbig]; rfl⟩
          go_wp2
          go_ret
          exact ⟨by first | (rw [IntWalk.i64_left]; rfl) | (rw [IntWalk.i64_in _ (by omega)]; rfl), by rw [← e2.out]; exact stTail H1.out.p1.setCell⟩
        · have f2 : (nt : Int) / 9223372036854775808 = 0 := by omega
          have e2 : Hide (false = bf) := ⟨by rw [← hbf.out, decide_eq_false hbig]; rfl⟩
          go_wp2
          go_ret
          exact ⟨by first | (rw [IntWalk.i64_left]; rfl) | (rw [IntWalk.i64_in _ (by omega)]; rfl), by rw [← e2.out]; exact stTail H1.out.p1.setCell⟩
      · have e2 : Hide (true = bf) := ⟨by rw [← hbf.out]; rfl⟩
        go_wp2
        go_ret
        exact ⟨by first | (rw [IntWalk.i64_left]; rfl) | (rw [IntWalk.i64_in _ (by omega)]; rfl), by rw [← e2.out]; exact stTail H1.out.p1.setCell⟩
theorem numD_some {n : Nat} {r : List UInt8} (h : n ≤ r.length) (hv : numL (r.take n) < 9223372036854775808) : numD n r = some (numL (r.take n), r.drop n) := if_pos ⟨h, hv⟩
theorem numD_none {n : Nat} {r : List UInt8} (h : ¬ (n ≤ r.length ∧ numL (r.take n) < 9223372036854775808)) : numD n r = none := if_neg h
theorem Get_any {g w : World} {tb rb bb : Nat} {r : List UInt8} {b : Bool} {F : List SProp} (n : Nat) (hn8 : n ≤ 8) (hr : r.length ≤ 10000000) (h : Holds g w (pts tb (.cells #[clo rb bb] 79) :: St rb bb r b :: F)) :
    Calls Tryd.prog 36 #[.int .i64 n, .pointer (some ⟨tb, 0, none⟩), .pointer (some ⟨bb, 0, none⟩)] w fun e w' => ∃ v r' b', e = .returned (.int .i64 v) ∧ Holds g w' (pts tb (.cells #[clo rb bb] 79) :: St rb bb r' b' :: F) ∧ Hide (GetR n r b v r' b') := by
  by_cases hn : n ≤ r.length
  · refine (Get_of n hn8 (r.take n) (r.drop n) b (by rw [List.length_take]; omega) h fun w hw => Take_ok n hn hr hw).mono ?_
    rintro e w' ⟨rfl, h'⟩
    refine ⟨_, _, _, rfl, h', ⟨?_⟩⟩
    have hsm : n ≤ 2 → numL (r.take n) ≤ 65535 := fun h2 => by
      have := numL_bound (l := r.take n) (k := 2) (by rw [List.length_take]; omega)
      have h0 : (256 : Nat) ^ 2 = 65536 := by decide
      omega
    by_cases hv : numL (r.take n) < 9223372036854775808
    · have e1 : IntKind.i64.wrap (numL (r.take n) : Int) = (numL (r.take n) : Int) := IntWalk.i64_in _ (by omega)
      refine ⟨fun m r1 hb hd => ?_, fun hd => ?_, fun hb => by rw [hb]; rfl, by rw [List.length_drop]; omega, fun h2 => ?_⟩
      · rw [numD_some hn hv] at hd
        cases hd
        exact ⟨e1, rfl, by rw [hb, decide_eq_false (by omega)]; rfl⟩
      · rw [numD_some hn hv] at hd; cases hd
      · rw [e1]; have := hsm h2; omega
    · refine ⟨fun m r1 hb hd => ?_, fun hd => ?_, fun hb => by rw [hb]; rfl, by rw [List.length_drop]; omega, fun h2 => ?_⟩
      · rw [numD_none (fun h => hv h.2)] at hd; cases hd
      · rw [decide_eq_true (by omega), Bool.or_true]
      · exact absurd (hsm h2) (by omega)
  · refine (Get_of n hn8 [] r true (by simp) h fun w hw => Take_no n (by omega) hr hw).mono ?_
    rintro e w' ⟨rfl, h'⟩
    refine ⟨_, _, _, rfl, h', ⟨?_⟩⟩
    refine ⟨fun m r1 hb hd => ?_, fun hd => rfl, fun hb => rfl, Nat.le_refl _, fun h2 => ?_⟩
    · rw [numD_none (fun h => hn h.1)] at hd; cases hd
    · rw [show IntKind.i64.wrap ((numL [] : Nat) : Int) = 0 from rfl]; omega
theorem Get1 {g w : World} {tb rb bb : Nat} {r : List UInt8} {b : Bool} {F : List SProp} (hr : r.length ≤ 10000000) (h : Holds g w (pts tb (.cells #[clo rb bb] 79) :: St rb bb r b :: F)) :
    Calls Tryd.prog 36 #[.int .i64 1, .pointer (some ⟨tb, 0, none⟩), .pointer (some ⟨bb, 0, none⟩)] w fun e w' => ∃ v r' b', e = .returned (.int .i64 v) ∧ Holds g w' (pts tb (.cells #[clo rb bb] 79) :: St rb bb r' b' :: F) ∧ Hide (GetR 1 r b v r' b') := Get_any 1 (by decide) hr h
theorem Get2 {g w : World} {tb rb bb : Nat} {r : List UInt8} {b : Bool} {F : List SProp} (hr : r.length ≤ 10000000) (h : Holds g w (pts tb (.cells #[clo rb bb] 79) :: St rb bb r b :: F)) :
    Calls Tryd.prog 36 #[.int .i64 2, .pointer (some ⟨tb, 0, none⟩), .pointer (some ⟨bb, 0, none⟩)] w fun e w' => ∃ v r' b', e = .returned (.int .i64 v) ∧ Holds g w' (pts tb (.cells #[clo rb bb] 79) :: St rb bb r' b' :: F) ∧ Hide (GetR 2 r b v r' b') := Get_any 2 (by decide) hr h
theorem Get8 {g w : World} {tb rb bb : Nat} {r : List UInt8} {b : Bool} {F : List SProp} (hr : r.length ≤ 10000000) (h : Holds g w (pts tb (.cells #[clo rb bb] 79) :: St rb bb r b :: F)) :
    Calls Tryd.prog 36 #[.int .i64 8, .pointer (some ⟨tb, 0, none⟩), .pointer (some ⟨bb, 0, none⟩)] w fun e w' => ∃ v r' b', e = .returned (.int .i64 v) ∧ Holds g w' (pts tb (.cells #[clo rb bb] 79) :: St rb bb r' b' :: F) ∧ Hide (GetR 8 r b v r' b') := Get_any 8 (by decide) hr h
structure TakeR (n : Nat) (r : List UInt8) (b : Bool) (t r' : List UInt8) (b' : Bool) : Prop where
  ok : ∀ t1 r1, b = false → txtD n r = some (t1, r1) → t = t1 ∧ r' = r1 ∧ b' = false
  no : txtD n r = none → b' = true
  old : b = true → b' = true
  le : r'.length ≤ r.length
theorem Take_any {g w : World} {rb bb : Nat} {r : List UInt8} {b : Bool} {F : List SProp} (n : Nat) (hr : r.length ≤ 10000000) (h : Holds g w (St rb bb r b :: F)) :
    Calls Tryd.prog 35 #[.int .i64 n, .pointer (some ⟨rb, 0, none⟩), .pointer (some ⟨bb, 0, none⟩)] w fun e w' => ∃ t r' b', e = .returned (.string ⟨List.toArray t⟩) ∧ Holds g w' (St rb bb r' b' :: F) ∧ Hide (TakeR n r b t r' b') := by
  by_cases hn : n ≤ r.length
  · refine (Take_ok n hn hr h).mono ?_
    rintro e w' ⟨rfl, h'⟩
    refine ⟨_, _, _, rfl, h', ⟨fun t1 r1 hb hd => ?_, fun hd => ?_, fun hb => hb, by rw [List.length_drop]; omega⟩⟩
    · rw [txtD, if_pos hn] at hd
      cases hd
      exact ⟨rfl, rfl, hb⟩
    · rw [txtD, if_pos hn] at hd; cases hd
  · refine (Take_no n (by omega) hr h).mono ?_
    rintro e w' ⟨rfl, h'⟩
    refine ⟨[], _, _, rfl, h', ⟨fun t1 r1 hb hd => ?_, fun hd => rfl, fun hb => rfl, Nat.le_refl _⟩⟩
    rw [txtD, if_neg hn] at hd; cases hd
end Go.Proofs.YtggeppmiifkikaaDoor
