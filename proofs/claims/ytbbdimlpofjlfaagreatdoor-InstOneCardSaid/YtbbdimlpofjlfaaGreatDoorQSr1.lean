/- srlru. -/
import Derived.Test.YtbbdimlpofjlfaaGreatDoorQLru1
import Derived.OwnWalk
namespace Go.Proofs.YtbbdimlpofjlfaaGreatDoor
open Go Go.RowKit

def encM (p : Bool × Bool) : Value := .agg #[.bool p.1, .bool p.2]
/-- An srlru cache's parts. -/
def SrRaw (b nb ab gb mb : Nat) (s : Sr) (F : List SProp) : List SProp :=
  pts b (.cells #[.int .i64 (s.most : Nat), .int .i64 (s.target : Nat), .pointer (some ⟨nb, 0, none⟩), .pointer (some ⟨ab, 0, none⟩), .pointer (some ⟨gb, 0, none⟩), .map (some mb)] 256) :: IsList nb s.n :: IsList ab s.a :: IsList gb s.g :: OwnMap mb (s.marks.enc encM) :: F
/-- An srlru cache at block b. -/
def IsSr (b : Nat) (s : Sr) : SProp := fun h => ∃ nb ab gb mb, All [pts b (.cells #[.int .i64 (s.most : Nat), .int .i64 (s.target : Nat), .pointer (some ⟨nb, 0, none⟩), .pointer (some ⟨ab, 0, none⟩), .pointer (some ⟨gb, 0, none⟩), .map (some mb)] 256), IsList nb s.n, IsList ab s.a, IsList gb s.g, OwnMap mb (s.marks.enc encM)] h
theorem Holds.isSr {g w : World} {b : Nat} {s : Sr} {F : List SProp} (h : Holds g w (IsSr b s :: F)) : ∃ nb ab gb mb, Holds g w (SrRaw b nb ab gb mb s F) := by
  obtain ⟨nb, h⟩ := h.unex
  obtain ⟨ab, h⟩ := h.unex
  obtain ⟨gb, h⟩ := h.unex
  obtain ⟨mb, h⟩ := h.unex
  exact ⟨nb, ab, gb, mb, h.unall⟩
theorem Holds.toSr {g w : World} {b nb ab gb mb : Nat} {s : Sr} {F : List SProp} (h : Holds g w (SrRaw b nb ab gb mb s F)) : Holds g w (IsSr b s :: F) := by
  have h' : Holds g w (All [pts b (.cells #[.int .i64 (s.most : Nat), .int .i64 (s.target : Nat), .pointer (some ⟨nb, 0, none⟩), .pointer (some ⟨ab, 0, none⟩), .pointer (some ⟨gb, 0, none⟩), .map (some mb)] 256), IsList nb s.n, IsList ab s.a, IsList gb s.g, OwnMap mb (s.marks.enc encM)] :: F) := Holds.all h
  exact h'.head fun x hx => ⟨nb, ab, gb, mb, hx⟩
theorem srCells {g w : World} {b nb ab gb mb : Nat} {s : Sr} {F : List SProp} (h : Holds g w (SrRaw b nb ab gb mb s F)) :
    w.cell? ⟨b, 0, none⟩ = some (.int .i64 (s.most : Nat)) ∧ w.cell? ⟨b, 1, none⟩ = some (.int .i64 (s.target : Nat)) ∧ w.cell? ⟨b, 2, none⟩ = some (.pointer (some ⟨nb, 0, none⟩)) ∧ w.cell? ⟨b, 3, none⟩ = some (.pointer (some ⟨ab, 0, none⟩)) ∧ w.cell? ⟨b, 4, none⟩ = some (.pointer (some ⟨gb, 0, none⟩)) ∧ w.cell? ⟨b, 5, none⟩ = some (.map (some mb)) := by
  unfold SrRaw at h
  exact ⟨h.cell rfl, h.cell rfl, h.cell rfl, h.cell rfl, h.cell rfl, h.cell rfl⟩
set_option maxRecDepth 100000 in
set_option maxHeartbeats 1000000 in
theorem Sr_New {g w : World} {F : List SProp} (h : Holds g w F) (m : Nat) (hm : m ≤ 1000000000) :
    Calls Tryz.prog 91 #[.int .i64 (m : Nat)] w fun r w' => ∃ b, r = .returned (.pointer (some ⟨b, 0, none⟩)) ∧ Holds g w' (IsSr b ⟨m, m / 2, [], [], [], []⟩ :: F) := by
  have hc := hide h
  have hmm := @run_makeMap Tryz.prog
  have f1 : max (m : Int) 0 = m := by omega
  obtain ⟨t, ht⟩ : ∃ t, m / 2 = t := ⟨_, rfl⟩
  have f2 : (m : Int) / 2 = (t : Int) := by omega
  have f3 : (m : Int).tdiv 2 = (t : Int) := by rw [Int.tdiv_eq_ediv_of_nonneg (by omega)]; exact f2
  have f4 : IntKind.i64.wrap (t : Int) = (t : Int) := IntWalk.i64_in _ (by omega)
  rw [ht]
  clear h ht
  go_enter Tryz.func91, Tryz.ntmps91
  go_wp2_with (go_at_call 67; (with_reducible refine (List_New hc.out).mono ?_); rintro r w1 ⟨lb, rfl, h1⟩; replace hc := hide h1; clear h1)
  go_ret
  rename_i _ nb _ ab
  have H2 := (hc.out.newMap.alloc (o := .cells #[.int .i64 (m : Nat), .int .i64 (t : Nat), .pointer (some ⟨nb, 0, none⟩), .pointer (some ⟨ab, 0, none⟩), .pointer (some ⟨lb, 0, none⟩), .map (some w1.heap.size)] 256))
  simp only [World.size_alloc] at H2
  refine ⟨_, rfl, ?_⟩
  exact Holds.toSr (s := ⟨m, t, [], [], [], []⟩) H2.p1.p2.p3.p4.p4
set_option maxRecDepth 100000 in
set_option maxHeartbeats 1000000 in
theorem Sr_Has {g w : World} {b : Nat} {s : Sr} {F : List SProp} (h : Holds g w (IsSr b s :: F)) (k : ByteArray) (d : Bool) (hd : s.has k = d) :
    Calls Tryz.prog 92 #[.pointer (some ⟨b, 0, none⟩), .string k] w fun r w' => r = .returned (.bool d) ∧ w = w' := by
  obtain ⟨nb, ab, gb, mb, h⟩ := h.isSr
  obtain ⟨c0, c1, c2, c3, c4, c5⟩ := srCells h
  obtain ⟨d1, hd1⟩ : ∃ d, decide (k ∈ s.n) = d := ⟨_, rfl⟩
  obtain ⟨d2, hd2⟩ : ∃ d, decide (k ∈ s.a) = d := ⟨_, rfl⟩
  have hd3 : (d1 || d2) = d := by rw [← hd1, ← hd2]; exact hd
  unfold SrRaw at h
  have cN := hide (List_Has h.p1 k d1 hd1)
  have cA := hide (List_Has h.p2 k d2 hd2)
  clear h hd hd1 hd2
  cases d1 with
  | true =>
    obtain rfl : true = d := hd3
    go_enter Tryz.func92, Tryz.ntmps92
    go_wp2_with (go_at_call 160; (with_reducible refine cN.out.mono ?_); rintro r w1 ⟨rfl, rfl⟩)
    go_ret
    exact ⟨rfl, rfl⟩
  | false =>
    obtain rfl : d2 = d := hd3
    go_enter Tryz.func92, Tryz.ntmps92
    go_wp2_with (go_at_call 160; (first | (with_reducible refine cN.out.mono ?_) | (with_reducible refine cA.out.mono ?_)); rintro r w1 ⟨rfl, rfl⟩)
    go_ret
    exact ⟨by first | rfl | simp, rfl⟩
set_option maxRecDepth 100000 in
set_option maxHeartbeats 1000000 in
theorem Sr_LenR {g w : World} {b nb ab gb mb : Nat} {s : Sr} {F : List SProp} (h : Holds g w (SrRaw b nb ab gb mb s F)) (n : Nat) (hn : s.len = n) (hl : s.len < 1000000) :
    Calls Tryz.prog 93 #[.pointer (some ⟨b, 0, none⟩)] w fun r w' => r = .returned (.int .i64 n) ∧ ∃ m, w' = w.drewN m := by
  obtain ⟨n1, hn1⟩ : ∃ n, s.n.length = n := ⟨_, rfl⟩
  obtain ⟨n2, hn2⟩ : ∃ n, s.a.length = n := ⟨_, rfl⟩
  have hs : n1 + n2 = n := by rw [← hn1, ← hn2]; exact hn
  obtain ⟨c0, c1, c2, c3, c4, c5⟩ := srCells h
  unfold SrRaw at h
  have cN := hide (fun m => List_Len (h.drewN (n := m)).p1 n1 hn1)
  have cA := hide (fun m => List_Len (h.drewN (n := m)).p2 n2 hn2)
  have f1 : IntKind.i64.wrap ((n1 : Int) + n2) = (n : Int) := by rw [IntWalk.i64_in _ (by omega)]; omega
  clear h hn hn1 hn2 hl hs c0 c1 c4 c5
  go_enter Tryz.func93, Tryz.ntmps93
  go_wp2
  go_quiet ((go_at_call 161; first | exact Calls.quiet_eq (cN.out _) | exact Calls.quiet_eq (cA.out _)))
  go_wp2
  go_ret
  exact ⟨rfl, _, rfl⟩
set_option maxRecDepth 100000 in
set_option maxHeartbeats 1000000 in
theorem Sr_row {g w : World} {b nb ab gb mb : Nat} {s : Sr} {F : List SProp} (h : Holds g w (SrRaw b nb ab gb mb s F)) (x : Nat) (hx : (if 0 < s.n.length then nb else ab) = x) :
    Calls Tryz.prog 180 #[.pointer (some ⟨b, 0, none⟩)] w fun r w' => r = .returned (.pointer (some ⟨x, 0, none⟩)) ∧ w = w' := by
  obtain ⟨n1, hn1⟩ : ∃ n, s.n.length = n := ⟨_, rfl⟩
  obtain ⟨c0, c1, c2, c3, c4, c5⟩ := srCells h
  unfold SrRaw at h
  have cN := hide (List_Len h.p1 n1 hn1)
  rw [hn1] at hx
  clear h hn1 c0 c1 c4 c5
  by_cases h0 : 0 < n1
  · rw [if_pos h0] at hx
    subst hx
    go_enter Tryz.func180, Tryz.ntmps180
    go_wp2_with (go_at_call 161; (with_reducible refine cN.out.mono ?_); rintro r w1 ⟨rfl, rfl⟩)
    go_ret
    exact ⟨rfl, rfl⟩
  · rw [if_neg h0] at hx
    subst hx
    obtain rfl : n1 = 0 := by omega
    clear h0
    go_enter Tryz.func180, Tryz.ntmps180
    go_wp2_with (go_at_call 161; (with_reducible refine cN.out.mono ?_); rintro r w1 ⟨rfl, rfl⟩)
    go_ret
    exact ⟨rfl, rfl⟩
end Go.Proofs.YtbbdimlpofjlfaaGreatDoor
/- srlru: Victim, Drop, trim, evict, again. -/
namespace Go.Proofs.YtbbdimlpofjlfaaGreatDoor
open Go Go.RowKit

theorem Sr_Len {g w : World} {b : Nat} {s : Sr} {F : List SProp} (h : Holds g w (IsSr b s :: F)) (n : Nat) (hn : s.len = n) (hl : s.len < 1000000) :
    Calls Tryz.prog 93 #[.pointer (some ⟨b, 0, none⟩)] w fun r w' => r = .returned (.int .i64 n) ∧ ∃ m, w' = w.drewN m := by
  obtain ⟨nb, ab, gb, mb, h⟩ := h.isSr
  exact Sr_LenR h n hn hl
/-- The list of the row. -/
theorem Sr.row_n {s : Sr} (h : 0 < s.n.length) : s.row = s.n := by unfold Sr.row; rw [if_pos h]
theorem Sr.row_a {s : Sr} (h : ¬ 0 < s.n.length) : s.row = s.a := by unfold Sr.row; rw [if_neg h]
theorem popRow_n {s : Sr} (h : 0 < s.n.length) : s.popRow = { s with n := s.n.dropLast } := by unfold Sr.popRow; rw [if_pos h]
theorem popRow_a {s : Sr} (h : ¬ 0 < s.n.length) : s.popRow = { s with a := s.a.dropLast } := by unfold Sr.popRow; rw [if_neg h]
set_option maxRecDepth 100000 in
set_option maxHeartbeats 1000000 in
theorem Sr_Victim {g w : World} {b : Nat} {s : Sr} {F : List SProp} (h : Holds g w (IsSr b s :: F)) (x : ByteArray) (hx : kLast s.row = x) (d : Bool) (hd : (!s.row.isEmpty) = d) :
    Calls Tryz.prog 97 #[.pointer (some ⟨b, 0, none⟩)] w fun r w' => r = .returned (.tuple #[.string x, .bool d]) ∧ Keep w w' := by
  obtain ⟨nb, ab, gb, mb, h⟩ := h.isSr
  obtain ⟨y, hy⟩ : ∃ y, (if 0 < s.n.length then nb else ab) = y := ⟨_, rfl⟩
  have cR := hide (Sr_row h y hy)
  have cL := hide (show Calls Tryz.prog 165 #[.pointer (some ⟨y, 0, none⟩)] w fun r w' => r = .returned (.tuple #[.string x, .bool d]) ∧ Keep w w' by
    unfold SrRaw at h
    by_cases h0 : 0 < s.n.length
    · rw [Sr.row_n h0] at hx hd
      rw [if_pos h0] at hy
      subst hy
      exact List_Last h.p1 x hx d hd
    · rw [Sr.row_a h0] at hx hd
      rw [if_neg h0] at hy
      subst hy
      exact List_Last h.p2 x hx d hd)
  clear h hx hd hy
  go_enter Tryz.func97, Tryz.ntmps97
  go_wp2_with (first
    | (go_at_call 180; (with_reducible refine cR.out.mono ?_); rintro r w1 ⟨rfl, rfl⟩)
    | (go_at_call 165; (with_reducible refine cL.out.mono ?_); rintro r w1 ⟨rfl, k1⟩; have k1 := hide k1))
  go_ret2
  exact ⟨rfl, k1.out⟩
/-- The row's last one is off, in memory. -/
theorem Sr_rowPop {g w : World} {b nb ab gb mb : Nat} {s : Sr} {F : List SProp} (h : Holds g w (SrRaw b nb ab gb mb s F)) (y : Nat) (hy : (if 0 < s.n.length then nb else ab) = y) (x : ByteArray) (hx : kLast s.row = x) (d : Bool) (hd : (!s.row.isEmpty) = d) :
    Calls Tryz.prog 162 #[.pointer (some ⟨y, 0, none⟩)] w fun r w' => r = .returned (.tuple #[.string x, .bool d]) ∧ Holds g w' (SrRaw b nb ab gb mb s.popRow F) := by
  unfold SrRaw at h ⊢
  by_cases h0 : 0 < s.n.length
  · rw [Sr.row_n h0] at hx hd
    rw [if_pos h0] at hy
    subst hy
    rw [popRow_n h0]
    exact (List_Pop h.p1 x hx d hd).mono fun r w' ⟨hr, h1⟩ => ⟨hr, h1.p1⟩
  · rw [Sr.row_a h0] at hx hd
    rw [if_neg h0] at hy
    subst hy
    rw [popRow_a h0]
    exact (List_Pop h.p2 x hx d hd).mono fun r w' ⟨hr, h1⟩ => ⟨hr, h1.p2.p2⟩
theorem popRow_nil {s : Sr} (h : s.row = []) : s.popRow = s := by
  unfold Sr.row at h
  unfold Sr.popRow
  split at h
  · rename_i h0
    rw [h] at h0
    simp at h0
  · rename_i h0
    rw [if_neg h0, h]
    rw [show ([] : List ByteArray).dropLast = [] from rfl, ← h]
theorem popRow_marks (s : Sr) : s.popRow.marks = s.marks := by unfold Sr.popRow; split <;> rfl
theorem popRow_g (s : Sr) : s.popRow.g = s.g := by unfold Sr.popRow; split <;> rfl
theorem popRow_most (s : Sr) : s.popRow.most = s.most := by unfold Sr.popRow; split <;> rfl
theorem bnot_isEmpty {l : List ByteArray} : ((!l.isEmpty) = true ↔ l ≠ []) := by cases l <;> simp
set_option maxRecDepth 100000 in
set_option maxHeartbeats 1000000 in
theorem Sr_Drop {g w : World} {b : Nat} {s : Sr} {F : List SProp} (h : Holds g w (IsSr b s :: F)) (x : ByteArray) (hx : kLast s.row = x) (d : Bool) (hd : (!s.row.isEmpty) = d) :
    Calls Tryz.prog 98 #[.pointer (some ⟨b, 0, none⟩)] w fun r w' => r = .returned (.tuple #[.string x, .bool d]) ∧ Holds g w' (IsSr b s.drop :: F) := by
  obtain ⟨nb, ab, gb, mb, h⟩ := h.isSr
  obtain ⟨y, hy⟩ : ∃ y, (if 0 < s.n.length then nb else ab) = y := ⟨_, rfl⟩
  have cR := hide (Sr_row h y hy)
  have cL := hide (Sr_rowPop h y hy x hx d hd)
  have h := hide h
  have hx := hide hx
  obtain ⟨s2, hs2⟩ : ∃ s2, s.drop = s2 := ⟨_, rfl⟩
  rw [hs2]
  cases d with
  | true =>
    have hr : Hide (s2 = { s.popRow with marks := s.marks.del x }) := ⟨by rw [← hs2]; unfold Sr.drop; rw [if_neg (bnot_isEmpty.1 hd), hx.out]⟩
    have hm := hide (popRow_marks s)
    clear hy hd hs2
    go_enter Tryz.func98, Tryz.ntmps98
    go_upto_region 3 with (first
      | (go_at_call 180; (with_reducible refine cR.out.mono ?_); rintro r w1 ⟨rfl, rfl⟩)
      | (go_at_call 162; (with_reducible refine cL.out.mono ?_); rintro r w1 ⟨rfl, h1⟩; have h1 := hide h1; obtain ⟨c0, c1, c2, c3, c4, c5⟩ := srCells h1.out))
    have H5 := h1.out
    unfold SrRaw at H5
    obtain ⟨w5, hdel, H5⟩ := H5.p4.deleteMap (P := Tryz.prog) (t := 254) Tryz.underlying254 Tryz.underlying9 x 9 0
    have H5 := hide H5
    go_wp2
    go_ret2
    refine ⟨rfl, Holds.toSr (nb := nb) (ab := ab) (gb := gb) (mb := mb) ?_⟩
    have H6 := H5.out.p4.p4.p4.p4
    rw [TMap.enc_del, hm.out] at H6
    rw [hr.out]
    exact H6
  | false =>
    have he : s.row = [] := by simpa using hd
    have hr : Hide (s2 = s.popRow) := ⟨by rw [← hs2]; unfold Sr.drop; rw [if_pos he, popRow_nil he]⟩
    clear hy hd hs2 he
    go_enter Tryz.func98, Tryz.ntmps98
    go_wp2_with (first
      | (go_at_call 180; (with_reducible refine cR.out.mono ?_); rintro r w1 ⟨rfl, rfl⟩)
      | (go_at_call 162; (with_reducible refine cL.out.mono ?_); rintro r w1 ⟨rfl, h1⟩; have h1 := hide h1; obtain ⟨c0, c1, c2, c3, c4, c5⟩ := srCells h1.out))
    go_ret2
    exact ⟨rfl, by rw [hr.out]; exact Holds.toSr h1.out⟩
/-- The last ghosts are off, till so many are left. -/
def Sr.trimTo (s : Sr) (j : Nat) : Sr := { s with g := s.g.take j, marks := delAll s.marks (s.g.drop j).reverse }
theorem Sr.trimTo_self (s : Sr) : s.trimTo s.g.length = s := by
  unfold Sr.trimTo
  rw [List.take_length, List.drop_length]
  rfl
theorem Sr.trimTo_step (s : Sr) {i : Nat} (hi : i < s.g.length) : { s.trimTo (i + 1) with g := (s.g.take (i + 1)).dropLast, marks := (s.trimTo (i + 1)).marks.del (kLast (s.g.take (i + 1))) } = s.trimTo i := by
  unfold Sr.trimTo
  have e1 : s.g.drop i = s.g[i] :: s.g.drop (i + 1) := List.drop_eq_getElem_cons hi
  have e2 : s.g.take (i + 1) = s.g.take i ++ [s.g[i]] := List.take_succ_eq_append_getElem hi
  rw [e1, List.reverse_cons, e2, List.dropLast_concat]
  rw [show kLast (s.g.take i ++ [s.g[i]]) = s.g[i] by unfold kLast; rw [List.getLast?_concat]; rfl]
  unfold delAll
  rw [List.foldl_append]
  rfl
theorem Sr.trim_eq (s : Sr) : s.trim = s.trimTo s.most := rfl
set_option maxRecDepth 100000 in
set_option maxHeartbeats 1000000 in
theorem Sr_trim {g w : World} {b nb ab gb mb : Nat} {s : Sr} {F : List SProp} (h : Holds g w (SrRaw b nb ab gb mb s F)) :
    Calls Tryz.prog 181 #[.pointer (some ⟨b, 0, none⟩)] w fun r w' => r = .returned (.tuple #[]) ∧ Holds g w' (SrRaw b nb ab gb mb s.trim F) := by
  rw [Sr.trim_eq]
  obtain ⟨most, hmo⟩ : ∃ m, s.most = m := ⟨_, rfl⟩
  rw [hmo]
  have hmo := hide hmo
  have h := hide h
  go_enter Tryz.func181, Tryz.ntmps181
  go_wp2
  go_loopg [4] (s.g.length) (fun k _ wr => ∃ j, Hide (j = k) ∧ j ≤ s.g.length ∧ Hide (j = s.g.length ∨ most ≤ j) ∧ Holds g wr (SrRaw b nb ab gb mb (s.trimTo j) F))
  case atStart => exact ⟨s.g.length, ⟨rfl⟩, Nat.le_refl _, ⟨.inl rfl⟩, by rw [Sr.trimTo_self]; exact h.out⟩
  case round =>
    clear h
    obtain ⟨j, hjk, hj, hjm, hh⟩ := hrel
    have hlj : (s.trimTo j).g.length = j := by show (s.g.take j).length = j; rw [List.length_take]; omega
    obtain ⟨c0, c1, c2, c3, c4, c5⟩ := srCells hh
    rw [show (s.trimTo j).most = most from hmo.out] at c0
    have hh0 := hide hh
    unfold SrRaw at hh
    have cL := hide (fun m => List_Len (hh.drewN (n := m)).p3 j hlj)
    have hj := hide hj
    clear c1 c2 c3
    by_cases hlt : most < j
    · have f2 : decide ((most : Int) < j) = true := decide_eq_true (by omega)
      have f3 : decide (most < j) = true := decide_eq_true hlt
      have hlt' : (most : Int) < j := by omega
      obtain ⟨x, hx⟩ : ∃ x, kLast (s.trimTo j).g = x := ⟨_, rfl⟩
      have hE : (!(s.trimTo j).g.isEmpty) = true := bnot_isEmpty.2 fun e => by rw [e] at hlj; simp at hlj; omega
      have cP := hide (fun m => List_Pop (hh.drewN (n := m)).p3 x hx true hE)
      have hstep : Hide ({ s.trimTo j with g := (s.trimTo j).g.dropLast, marks := (s.trimTo j).marks.del x } = s.trimTo (j - 1)) := ⟨by
        rw [← hx]
        obtain ⟨i, rfl⟩ : ∃ i, j = i + 1 := ⟨j - 1, by omega⟩
        exact s.trimTo_step (by have := hj.out; omega)⟩
      have hlj := hide hlj
      clear hh hx hE
      go_wp2
      go_quiet ((go_at_call 161; exact Calls.quiet_eq (cL.out _)))
      go_upto_region 2 with (go_at_call 162; (with_reducible refine (cP.out _).mono ?_); rintro r w3 ⟨rfl, h3⟩; have h3 := hide h3; have y5 := Holds.cell (off := 5) h3.out.p1 rfl)
      obtain ⟨w5, hdel, H5⟩ := (Holds.p4 h3.out).deleteMap (P := Tryz.prog) (t := 254) Tryz.underlying254 Tryz.underlying9 x 9 0
      have H6 : Hide (Holds g w5 (SrRaw b nb ab gb mb (s.trimTo (j - 1)) F)) := ⟨by
        rw [← hstep.out]
        rw [TMap.enc_del] at H5
        unfold SrRaw
        exact H5.p1.p4.p4.p4⟩
      go_wp2
      go_roundg (j - 1)
      case measure => rw [← hjk.out]; omega
      case rel => exact ⟨j - 1, ⟨rfl⟩, by have := hj.out; omega, ⟨.inr (by omega)⟩, H6.out⟩
    · have f2 : decide ((most : Int) < j) = false := decide_eq_false (by omega)
      have f3 : decide (most < j) = false := decide_eq_false hlt
      have hr : Hide (s.trimTo j = s.trimTo most) := ⟨by
        have := hj.out
        rcases hjm.out with h | h
        · subst h
          unfold Sr.trimTo
          rw [List.take_of_length_le (show s.g.length ≤ most by omega), List.drop_of_length_le (show s.g.length ≤ most by omega), List.take_length, List.drop_length]
        · obtain rfl : j = most := by omega
          rfl⟩
      have hlt := hide hlt
      have hlj := hide hlj
      go_wp2
      go_quiet ((go_at_call 161; exact Calls.quiet_eq (cL.out _)))
      go_wp2
      go_end0
      refine ⟨rfl, ?_⟩
      rw [← hr.out]
      exact hh0.out.drewN
end Go.Proofs.YtbbdimlpofjlfaaGreatDoor
/- srlru: evict, again, Remove, Adopt. -/
namespace Go.Proofs.YtbbdimlpofjlfaaGreatDoor
open Go Go.RowKit

theorem kFront_len (l : List ByteArray) (k : ByteArray) : (kFront l k).length ≤ l.length + 1 := by
  unfold kFront kDel
  rw [List.length_cons]
  have := List.length_filter_le (fun c => !decide (c = k)) l
  omega
set_option maxRecDepth 100000 in
set_option maxHeartbeats 1000000 in
theorem Sr_evict {g w : World} {b : Nat} {s : Sr} {F : List SProp} (h : Holds g w (IsSr b s :: F)) (x : ByteArray) (hx : kLast s.row = x) (d : Bool) (hd : (!s.row.isEmpty) = d) (hg : s.g.length < 900000) :
    Calls Tryz.prog 179 #[.pointer (some ⟨b, 0, none⟩)] w fun r w' => r = .returned (.tuple #[.string x, .bool d]) ∧ Holds g w' (IsSr b s.evict :: F) := by
  obtain ⟨nb, ab, gb, mb, h⟩ := h.isSr
  obtain ⟨y, hy⟩ : ∃ y, (if 0 < s.n.length then nb else ab) = y := ⟨_, rfl⟩
  have cR := hide (Sr_row h y hy)
  have cL := hide (Sr_rowPop h y hy x hx d hd)
  have h := hide h
  have hx := hide hx
  obtain ⟨s2, hs2⟩ : ∃ s2, s.evict = s2 := ⟨_, rfl⟩
  rw [hs2]
  have hg := hide hg
  cases d with
  | true =>
    have hr : Hide (Sr.trim { s.popRow with g := kFront s.popRow.g x } = s2) := ⟨by rw [← hs2]; unfold Sr.evict; rw [if_neg (bnot_isEmpty.1 hd), hx.out, popRow_g]⟩
    have hg2 : Hide (s.popRow.g.length < 900000) := ⟨by rw [popRow_g]; exact hg.out⟩
    clear hy hd hs2
    go_enter Tryz.func179, Tryz.ntmps179
    go_wp2_with (first
      | (go_at_call 180; (with_reducible refine cR.out.mono ?_); rintro r w1 ⟨rfl, rfl⟩)
      | (go_at_call 162; (with_reducible refine cL.out.mono ?_); rintro r w1 ⟨rfl, h1⟩; have h1 := hide h1; obtain ⟨c0, c1, c2, c3, c4, c5⟩ := srCells h1.out)
      | (go_at_call 163; (with_reducible refine (List_Front (Holds.p3 h1.out) x hg2.out).mono ?_); rintro r w2 ⟨rfl, h2⟩; have h2 : Hide (Holds g w2 (SrRaw b nb ab gb mb { s.popRow with g := kFront s.popRow.g x } F)) := ⟨by unfold SrRaw; exact h2.p3.p3.p3⟩)
      | (go_at_call 181; (with_reducible refine (Sr_trim h2.out).mono ?_); rintro r w3 ⟨rfl, h3⟩; rw [hr.out] at h3; have h3 := hide h3))
    go_ret2
    exact ⟨rfl, Holds.toSr h3.out⟩
  | false =>
    have he : s.row = [] := by simpa using hd
    have hr : Hide (s2 = s.popRow) := ⟨by rw [← hs2]; unfold Sr.evict; rw [if_pos he, popRow_nil he]⟩
    clear hy hd hs2 he
    go_enter Tryz.func179, Tryz.ntmps179
    go_wp2_with (first
      | (go_at_call 180; (with_reducible refine cR.out.mono ?_); rintro r w1 ⟨rfl, rfl⟩)
      | (go_at_call 162; (with_reducible refine cL.out.mono ?_); rintro r w1 ⟨rfl, h1⟩; have h1 := hide h1; obtain ⟨c0, c1, c2, c3, c4, c5⟩ := srCells h1.out))
    go_ret2
    exact ⟨rfl, by rw [hr.out]; exact Holds.toSr h1.out⟩
/-! ### again -/
def Sr.demote1 (s : Sr) (k : ByteArray) : Sr := { s with n := kFront s.n k, marks := s.marks.put k (true, true) }
theorem Sr.demote_snoc (s : Sr) (l : List ByteArray) (k : ByteArray) : s.demote (l ++ [k]) = (s.demote l).demote1 k := by
  unfold Sr.demote
  rw [List.foldl_append]
  rfl
theorem Sr.demote_a (x : List ByteArray) : ∀ (l : List ByteArray) (s : Sr), ({ s with a := x } : Sr).demote l = { s.demote l with a := x }
  | [], _ => rfl
  | k :: l, s => Sr.demote_a x l (s.demote1 k)
theorem Sr.demote_target : ∀ (l : List ByteArray) (s : Sr), (s.demote l).target = s.target
  | [], _ => rfl
  | k :: l, s => Sr.demote_target l (s.demote1 k)
theorem Sr.demote_n : ∀ (l : List ByteArray) (s : Sr), (s.demote l).n.length ≤ s.n.length + l.length
  | [], _ => Nat.le_refl _
  | k :: l, s => by
    have := Sr.demote_n l (s.demote1 k)
    have h2 := kFront_len s.n k
    show ((s.demote1 k).demote l).n.length ≤ _
    have h3 : (s.demote1 k).n.length = (kFront s.n k).length := rfl
    rw [List.length_cons]
    omega
/-- The last ones of the row a are off, till so many are left. -/
def Sr.agTo (s : Sr) (a : List ByteArray) (j : Nat) : Sr := { s.demote (a.drop j).reverse with a := a.take j }
theorem Sr.agTo_step (s : Sr) (a : List ByteArray) {i : Nat} (hi : i < a.length) : ({ s.agTo a (i + 1) with a := (a.take (i + 1)).dropLast } : Sr).demote1 (kLast (a.take (i + 1))) = s.agTo a i := by
  unfold Sr.agTo
  have e1 : a.drop i = a[i] :: a.drop (i + 1) := List.drop_eq_getElem_cons hi
  have e2 : a.take (i + 1) = a.take i ++ [a[i]] := List.take_succ_eq_append_getElem hi
  rw [e1, List.reverse_cons, e2, List.dropLast_concat, Sr.demote_snoc]
  rw [show kLast (a.take i ++ [a[i]]) = a[i] by unfold kLast; rw [List.getLast?_concat]; rfl]
  rfl
theorem Sr.again_eq (s : Sr) (k : ByteArray) : s.again k = ({ s with marks := s.marks.put k (true, false) } : Sr).agTo (kFront s.a k) (max s.target 1) := by
  unfold Sr.again Sr.agTo
  dsimp only
  rw [show ({ s with a := (kFront s.a k).take (max s.target 1), marks := s.marks.put k (true, false) } : Sr) = { ({ s with marks := s.marks.put k (true, false) } : Sr) with a := (kFront s.a k).take (max s.target 1) } from rfl, Sr.demote_a]
set_option maxRecDepth 100000 in
set_option maxHeartbeats 1000000 in
theorem Sr_demote {g w : World} {cb b nb ab gb mb : Nat} {s : Sr} {F : List SProp} (h : Holds g w (SrRaw b nb ab gb mb s (pts cb (.cells #[.pointer (some ⟨b, 0, none⟩)] 163) :: F))) (x : ByteArray) (hx : kLast s.a = x) (hne : s.a ≠ []) (hn : s.n.length < 900000) :
    Calls Tryz.prog 233 #[.pointer (some ⟨cb, 0, none⟩)] w fun r w' => r = .returned (.tuple #[]) ∧ Holds g w' (SrRaw b nb ab gb mb (({ s with a := s.a.dropLast } : Sr).demote1 x) (pts cb (.cells #[.pointer (some ⟨b, 0, none⟩)] 163) :: F)) := by
  obtain ⟨c0, c1, c2, c3, c4, c5⟩ := srCells h
  unfold SrRaw at h
  have d0 := Holds.cell (off := 0) (Holds.p5 h) rfl
  have cP := hide (List_Pop h.p2 x hx true (bnot_isEmpty.2 hne))
  have hn := hide hn
  clear h hx hne c0 c1 c4
  go_enter Tryz.func233, Tryz.ntmps233
  go_upto_region 2 with (first
    | (go_at_call 162; (with_reducible refine cP.out.mono ?_); rintro r w1 ⟨rfl, h1⟩; have h1 := hide h1; have d0 := Holds.cell (off := 0) (Holds.p5 h1.out) rfl; have c2 := Holds.cell (off := 2) (Holds.p1 h1.out) rfl)
    | (go_at_call 163; (with_reducible refine (List_Front (Holds.p2 h1.out) x hn.out).mono ?_); rintro r w2 ⟨rfl, h2⟩; have h2 := hide h2; have d0 := Holds.cell (off := 0) (Holds.p5 h2.out) rfl; have c5 := Holds.cell (off := 5) (Holds.p2 h2.out) rfl))
  obtain ⟨w5, hup, H5⟩ := (Holds.p4 h2.out).updateMap (P := Tryz.prog) (t := 254) Tryz.underlying254 Tryz.underlying9 x (encM (true, true))
  rw [TMap.enc_put] at H5
  unfold encM at hup
  have H5 := hide H5
  go_wp2
  go_end0
  refine ⟨rfl, ?_⟩
  unfold SrRaw
  exact H5.out.p4.p3.p3.p4
set_option maxRecDepth 100000 in
set_option maxHeartbeats 1000000 in
theorem Sr_again {g w : World} {b : Nat} {s : Sr} {F : List SProp} (h : Holds g w (IsSr b s :: F)) (k : ByteArray) (hl : s.n.length + s.a.length < 800000) :
    Calls Tryz.prog 178 #[.pointer (some ⟨b, 0, none⟩), .string k] w fun r w' => r = .returned (.tuple #[]) ∧ Holds g w' (IsSr b (s.again k) :: F) := by
  rw [Sr.again_eq]
  obtain ⟨nb, ab, gb, mb, h⟩ := h.isSr
  obtain ⟨s1, hs1⟩ : ∃ s1, ({ s with marks := s.marks.put k (true, false) } : Sr) = s1 := ⟨_, rfl⟩
  obtain ⟨A, hA⟩ : ∃ A, kFront s.a k = A := ⟨_, rfl⟩
  obtain ⟨tg, htg⟩ : ∃ t, s.target = t := ⟨_, rfl⟩
  rw [hs1, hA, htg]
  have hAl : Hide (A.length ≤ s.a.length + 1) := ⟨by rw [← hA]; exact kFront_len _ _⟩
  have hsn : Hide (s1.n = s.n ∧ s1.target = tg) := ⟨by rw [← hs1]; exact ⟨rfl, htg⟩⟩
  obtain ⟨cb, hcb⟩ : ∃ cb, w.heap.size = cb := ⟨_, rfl⟩
  have HA := h.alloc (o := .cells #[.pointer (some ⟨b, 0, none⟩)] 163)
  unfold SrRaw at HA
  rw [hcb, htg] at HA
  have d0 := Holds.cell (off := 0) HA rfl
  have d3 := Holds.cell (off := 3) HA.p1 rfl
  have cF := hide (List_Front HA.p3 k (by omega))
  have hs1' : Hide (IsList gb s.g = IsList gb s1.g ∧ IsList nb s.n = IsList nb s1.n ∧ s.most = s1.most ∧ (s.marks.put k (true, false)) = s1.marks) := ⟨by rw [← hs1]; exact ⟨rfl, rfl, rfl, rfl⟩⟩
  have hl := hide hl
  have hA := hide hA
  clear h HA htg hs1
  go_enter Tryz.func178, Tryz.ntmps178
  go_upto_region 2 with (go_at_call 163; (with_reducible refine cF.out.mono ?_); rintro r w1 ⟨rfl, h1⟩; have h1 := hide h1; have d0 := Holds.cell (off := 0) h1.out.p1 rfl; have d5 := Holds.cell (off := 5) h1.out.p2 rfl)
  try simp only [hcb]
  clear hcb
  obtain ⟨w5, hup, H5⟩ := (Holds.p5 h1.out).updateMap (P := Tryz.prog) (t := 254) Tryz.underlying254 Tryz.underlying9 k (encM (true, false))
  rw [TMap.enc_put, hs1'.out.2.2.2] at H5
  unfold encM at hup
  have H6 : Hide (Holds g w5 (SrRaw b nb ab gb mb (s1.agTo A A.length) (pts cb (.cells #[.pointer (some ⟨b, 0, none⟩)] 163) :: F))) := ⟨by
    have e : s1.agTo A A.length = { s1 with a := A } := by
      unfold Sr.agTo
      rw [List.take_length, List.drop_length]
      rfl
    rw [e]
    unfold SrRaw
    dsimp only
    rw [hsn.out.2, ← hs1'.out.2.2.1, ← hs1'.out.2.1, ← hs1'.out.1, ← hA.out]
    exact H5.p5.p2.p5.p5⟩
  clear H5 h1 hs1'
  go_wp2
  go_loopg [18] (A.length) (fun j0 _ wr => ∃ j, Hide (j = j0) ∧ j ≤ A.length ∧ Hide (j = A.length ∨ max tg 1 ≤ j) ∧ Holds g wr (SrRaw b nb ab gb mb (s1.agTo A j) (pts cb (.cells #[.pointer (some ⟨b, 0, none⟩)] 163) :: F)))
  case atStart => exact ⟨A.length, ⟨rfl⟩, Nat.le_refl _, ⟨.inl rfl⟩, H6.out⟩
  case round =>
    clear H6
    obtain ⟨j, hjk, hj, hjm, hh⟩ := hrel
    have hlj : (s1.agTo A j).a.length = j := by show (A.take j).length = j; rw [List.length_take]; omega
    obtain ⟨c0, c1, c2, c3, c4, c5⟩ := srCells hh
    have htg : (s1.agTo A j).target = tg := by
      show (s1.demote (A.drop j).reverse).target = tg
      rw [Sr.demote_target]; exact hsn.out.2
    rw [htg] at c1
    clear htg
    have hh0 := hide hh
    unfold SrRaw at hh
    have d0 := Holds.cell (off := 0) (Holds.p5 hh) rfl
    have cL := hide (fun m => List_Len (hh.drewN (n := m)).p2 j hlj)
    have hj := hide hj
    have hlj := hide hlj
    clear hh c2 c4 c5
    obtain ⟨u, hu⟩ : ∃ u, max tg 1 = u := ⟨_, rfl⟩
    have g1 : (if (tg : Int) < 1 then (1 : Int) else (tg : Int)) = (u : Int) := by split <;> omega
    have hu := hide hu
    by_cases hlt : u < j
    · have f2 : decide ((u : Int) < j) = true := decide_eq_true (by omega)
      have f3 : decide (u < j) = true := decide_eq_true hlt
      have hlt' : (u : Int) < j := by omega
      obtain ⟨x, hx⟩ : ∃ x, kLast (s1.agTo A j).a = x := ⟨_, rfl⟩
      have hE : (s1.agTo A j).a ≠ [] := fun e => by have := hlj.out; rw [e] at this; simp at this; omega
      have hnl : (s1.agTo A j).n.length < 900000 := by
        show (s1.demote (A.drop j).reverse).n.length < 900000
        have h1 := Sr.demote_n (A.drop j).reverse s1
        rw [List.length_reverse, List.length_drop, hsn.out.1] at h1
        have := hl.out
        have := hAl.out
        omega
      have cG := hide (fun m => Sr_demote (hh0.out.drewN (n := m)) x hx hE hnl)
      have hstep : Hide (({ s1.agTo A j with a := (s1.agTo A j).a.dropLast } : Sr).demote1 x = s1.agTo A (j - 1)) := ⟨by
        rw [← hx]
        obtain ⟨i, rfl⟩ : ∃ i, j = i + 1 := ⟨j - 1, by omega⟩
        exact Sr.agTo_step s1 A (by have := hj.out; omega)⟩
      clear hx hE hnl
      go_wp2
      go_quiet ((go_at_call 161; exact Calls.quiet_eq (cL.out _)))
      go_wp2_with (go_at_call 233; (with_reducible refine (cG.out _).mono ?_); rintro r w3 ⟨rfl, h3⟩; rw [hstep.out] at h3; have h3 := hide h3)
      go_roundg (j - 1)
      case measure => rw [← hjk.out]; omega
      case rel => exact ⟨j - 1, ⟨rfl⟩, by have := hj.out; omega, ⟨.inr (by have := hu.out; omega)⟩, h3.out⟩
    · have f2 : decide ((u : Int) < j) = false := decide_eq_false (by omega)
      have f3 : decide (u < j) = false := decide_eq_false hlt
      have hr : Hide (s1.agTo A j = s1.agTo A (max tg 1)) := ⟨by
        have h1 := hj.out
        have h2 := hu.out
        rcases hjm.out with h | h
        · subst h
          unfold Sr.agTo
          rw [List.take_of_length_le (show A.length ≤ max tg 1 by omega), List.drop_of_length_le (show A.length ≤ max tg 1 by omega), List.take_length, List.drop_length]
        · obtain rfl : j = max tg 1 := by omega
          rfl⟩
      have hlt := hide hlt
      go_wp2
      go_quiet ((go_at_call 161; exact Calls.quiet_eq (cL.out _)))
      go_wp2
      go_end0
      refine ⟨rfl, ?_⟩
      rw [← hr.out]
      have H7 := hh0.out.drewN (n := nq)
      unfold SrRaw at H7
      exact Holds.toSr (nb := nb) (ab := ab) (gb := gb) (mb := mb) H7.p5.drop
set_option maxRecDepth 100000 in
set_option maxHeartbeats 1000000 in
theorem Sr_Remove {g w : World} {b : Nat} {s : Sr} {F : List SProp} (h : Holds g w (IsSr b s :: F)) (k : ByteArray) (d : Bool) (hd : s.has k = d) :
    Calls Tryz.prog 95 #[.pointer (some ⟨b, 0, none⟩), .string k] w fun r w' => r = .returned (.bool d) ∧ Holds g w' (IsSr b (s.remove k) :: F) := by
  obtain ⟨nb, ab, gb, mb, h⟩ := h.isSr
  obtain ⟨c0, c1, c2, c3, c4, c5⟩ := srCells h
  obtain ⟨d1, hd1⟩ : ∃ d, decide (k ∈ s.n) = d := ⟨_, rfl⟩
  obtain ⟨d2, hd2⟩ : ∃ d, decide (k ∈ s.a) = d := ⟨_, rfl⟩
  obtain ⟨d3, hd3⟩ : ∃ d, decide (k ∈ s.g) = d := ⟨_, rfl⟩
  have hd4 : (d1 || d2) = d := by rw [← hd1, ← hd2]; exact hd
  unfold SrRaw at h
  have cN := hide (List_Remove h.p1 k d1 hd1)
  obtain ⟨s2, hs2⟩ : ∃ s2, s.remove k = s2 := ⟨_, rfl⟩
  rw [hs2]
  have hd2 := hide hd2
  have hd3 := hide hd3
  cases d1 with
  | true =>
    obtain rfl : true = d := hd4
    have hs3 : Hide ({ s with n := kDel s.n k, g := kDel s.g k, marks := s.marks.del k } = s2) := ⟨by rw [← hs2]; unfold Sr.remove; rw [if_pos (of_decide_eq_true hd1)]⟩
    clear hd hd1 hs2 h
    go_enter Tryz.func95, Tryz.ntmps95
    go_upto_region 3 with (go_at_call 164; first
      | ((with_reducible refine cN.out.mono ?_); rintro r w1 ⟨rfl, h1⟩; have h1 := hide h1; have c4 := Holds.cell (off := 4) h1.out.p1 rfl)
      | ((with_reducible refine (List_Remove (Holds.p3 h1.out) k d3 hd3.out).mono ?_); rintro r w2 ⟨rfl, h2⟩; have h2 := hide h2; have c5 := Holds.cell (off := 5) h2.out.p2 rfl))
    obtain ⟨w5, hdel, H5⟩ := (Holds.p4 h2.out).deleteMap (P := Tryz.prog) (t := 254) Tryz.underlying254 Tryz.underlying9 k 9 0
    rw [TMap.enc_del] at H5
    have H5 := hide H5
    go_wp2
    go_ret
    refine ⟨rfl, ?_⟩
    rw [← hs3.out]
    refine Holds.toSr (nb := nb) (ab := ab) (gb := gb) (mb := mb) ?_
    unfold SrRaw
    exact H5.out.p1.p4.p3.p4
  | false =>
    obtain rfl : d2 = d := hd4
    have hs3 : Hide ({ s with n := kDel s.n k, a := kDel s.a k, g := kDel s.g k, marks := s.marks.del k } = s2) := ⟨by rw [← hs2]; unfold Sr.remove; rw [if_neg (of_decide_eq_false hd1)]⟩
    clear hd hd1 hs2 h
    go_enter Tryz.func95, Tryz.ntmps95
    go_upto_region 3 with (go_at_call 164; first
      | ((with_reducible refine cN.out.mono ?_); rintro r w1 ⟨rfl, h1⟩; have h1 := hide h1; have c3 := Holds.cell (off := 3) h1.out.p1 rfl)
      | ((with_reducible refine (List_Remove (Holds.p2 h1.out) k d2 hd2.out).mono ?_); rintro r w1 ⟨rfl, h2⟩; have h2 := hide h2; have c4 := Holds.cell (off := 4) h2.out.p2 rfl)
      | ((with_reducible refine (List_Remove (Holds.p3 h2.out) k d3 hd3.out).mono ?_); rintro r w2 ⟨rfl, h3⟩; have h3 := hide h3; have c5 := Holds.cell (off := 5) h3.out.p3 rfl))
    obtain ⟨w5, hdel, H5⟩ := (Holds.p4 h3.out).deleteMap (P := Tryz.prog) (t := 254) Tryz.underlying254 Tryz.underlying9 k 9 0
    rw [TMap.enc_del] at H5
    have H5 := hide H5
    go_wp2
    go_ret
    refine ⟨by first | rfl | simp, ?_⟩
    rw [← hs3.out]
    refine Holds.toSr (nb := nb) (ab := ab) (gb := gb) (mb := mb) ?_
    unfold SrRaw
    exact H5.out.p1.p2.p3.p4
end Go.Proofs.YtbbdimlpofjlfaaGreatDoor
