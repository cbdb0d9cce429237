/- A heap of keys: in memory; which item is ahead. -/
import Derived.Test.YtbbdimlpofjlfaaGreatDoorQLru1
import Derived.Test.YtbbdimlpofjlfaaGreatDoorQLsRow
import Derived.Laws.StructEq
namespace Go.Proofs.YtbbdimlpofjlfaaGreatDoor
open Go Go.RowKit

def heCells (es : List HE) : List Value := es.flatMap fun x => [.string x.key, .int .i64 x.one, .int .i64 x.two, .int .i64 x.came]
theorem heCells_length : ∀ es : List HE, (heCells es).length = es.length * 4
  | [] => rfl
  | x :: es => by
    have := heCells_length es
    unfold heCells at this ⊢
    rw [List.flatMap_cons, List.length_append, this, List.length_cons]
    simp
    omega
theorem heCells_get : ∀ (es : List HE) (i : Nat), i < es.length → (heCells es)[i * 4]? = some (.string (hG es i).key) ∧ (heCells es)[i * 4 + 1]? = some (.int .i64 (hG es i).one) ∧ (heCells es)[i * 4 + 2]? = some (.int .i64 (hG es i).two) ∧ (heCells es)[i * 4 + 3]? = some (.int .i64 (hG es i).came)
  | [], i, h => by simp at h
  | x :: es, 0, _ => ⟨rfl, rfl, rfl, rfl⟩
  | x :: es, i + 1, h => by
    have := heCells_get es i (by simpa using h)
    rw [show (i + 1) * 4 = i * 4 + 4 by omega]
    exact this
theorem heCells_set : ∀ (es : List HE) (i : Nat) (x : HE), i < es.length → heCells (es.set i x) = ((((heCells es).set (i * 4) (.string x.key)).set (i * 4 + 1) (.int .i64 x.one)).set (i * 4 + 2) (.int .i64 x.two)).set (i * 4 + 3) (.int .i64 x.came)
  | [], i, _, h => by simp at h
  | _ :: _, 0, _, _ => rfl
  | y :: es, i + 1, x, h => by
    have := heCells_set es i x (by simpa using h)
    rw [show (i + 1) * 4 = i * 4 + 4 by omega]
    unfold heCells at this ⊢
    rw [List.set_cons_succ, List.flatMap_cons, List.flatMap_cons, this]
    rfl
theorem heCells_append (es : List HE) (x : HE) : heCells (es ++ [x]) = heCells es ++ [.string x.key, .int .i64 x.one, .int .i64 x.two, .int .i64 x.came] := by
  unfold heCells
  rw [List.flatMap_append]
  rfl
def heV (x : HE) : Value := .agg #[.string x.key, .int .i64 x.one, .int .i64 x.two, .int .i64 x.came]
set_option maxRecDepth 100000 in
theorem Hp_Less (a1 a2 b1 b2 : Int) (d : Bool) (hd : decide (a1 < b1 ∨ (a1 = b1 ∧ a2 < b2)) = d) (w : World) :
    Calls Tryz.prog 253 #[.agg #[.int .i64 a1, .int .i64 a2], .agg #[.int .i64 b1, .int .i64 b2]] w fun r w' => r = .returned (.bool d) ∧ Keep w w' := by
  have hK := hide (((Keep.refl w).alloc (o := .cells #[.int .i64 a1, .int .i64 a2] 251)).alloc (o := .cells #[.int .i64 b1, .int .i64 b2] 251))
  have hc : (a1 < b1 ∧ d = true) ∨ (¬ a1 < b1 ∧ ¬ a1 = b1 ∧ d = false) ∨ (a1 = b1 ∧ a2 < b2 ∧ d = true) ∨ (a1 = b1 ∧ ¬ a2 < b2 ∧ d = false) := by
    rw [← hd]
    by_cases h1 : a1 < b1
    · exact .inl ⟨h1, decide_eq_true (.inl h1)⟩
    · by_cases h2 : a1 = b1
      · by_cases h3 : a2 < b2
        · exact .inr (.inr (.inl ⟨h2, h3, decide_eq_true (.inr ⟨h2, h3⟩)⟩))
        · exact .inr (.inr (.inr ⟨h2, h3, decide_eq_false (by omega)⟩))
      · exact .inr (.inl ⟨h1, h2, decide_eq_false (by omega)⟩)
  clear hd
  rcases hc with ⟨h1, rfl⟩ | ⟨h1, h2, rfl⟩ | ⟨rfl, h3, rfl⟩ | ⟨rfl, h3, rfl⟩
  · go_enter Tryz.func253, Tryz.ntmps253
    go_wp2
    go_ret
    exact ⟨rfl, hK.out⟩
  · have h2' : (a1 == b1) = false := beq_eq_false_iff_ne.2 h2
    go_enter Tryz.func253, Tryz.ntmps253
    go_wp2
    go_ret
    exact ⟨rfl, hK.out⟩
  · have h1 : ¬ a1 < a1 := by omega
    go_enter Tryz.func253, Tryz.ntmps253
    go_wp2
    go_ret
    exact ⟨rfl, hK.out⟩
  · have h1 : ¬ a1 < a1 := by omega
    go_enter Tryz.func253, Tryz.ntmps253
    go_wp2
    go_ret
    exact ⟨by first | rfl | simp; omega, hK.out⟩
theorem boxes4 {w w1 : World} {t : TypeId} {u0 u1 u2 u3 v0 v1 v2 v3 : Value} (k : Keep ((w.alloc (.cells #[u0, u1, u2, u3] t)).alloc (.cells #[v0, v1, v2, v3] t)) w1) :
    (w1.cell? ⟨w.heap.size, 0, none⟩ = some u0 ∧ w1.cell? ⟨w.heap.size, 1, none⟩ = some u1 ∧ w1.cell? ⟨w.heap.size, 2, none⟩ = some u2 ∧ w1.cell? ⟨w.heap.size, 3, none⟩ = some u3) ∧
    (w1.cell? ⟨w.heap.size + 1, 0, none⟩ = some v0 ∧ w1.cell? ⟨w.heap.size + 1, 1, none⟩ = some v1 ∧ w1.cell? ⟨w.heap.size + 1, 2, none⟩ = some v2 ∧ w1.cell? ⟨w.heap.size + 1, 3, none⟩ = some v3) := by
  have H := ((Holds.start w).alloc (o := .cells #[u0, u1, u2, u3] t)).alloc (o := .cells #[v0, v1, v2, v3] t)
  simp only [World.size_alloc] at H
  have H := H.keep k
  exact ⟨⟨H.p1.cell rfl, H.p1.cell rfl, H.p1.cell rfl, H.p1.cell rfl⟩, ⟨H.cell rfl, H.cell rfl, H.cell rfl, H.cell rfl⟩⟩
set_option maxRecDepth 100000 in
set_option maxHeartbeats 1000000 in
theorem Hp_ahead (x y : HE) (d : Bool) (hd : decide (hLt x y) = d) (w : World) :
    Calls Tryz.prog 232 #[heV x, heV y] w fun r w' => r = .returned (.bool d) ∧ Keep w w' := by
  obtain ⟨k1, a1, a2, a3⟩ := x
  obtain ⟨k2, b1, b2, b3⟩ := y
  unfold hLt at hd
  unfold heV
  dsimp only at hd ⊢
  have hK := hide (((Keep.refl w).alloc (o := .cells #[.string k1, .int .i64 a1, .int .i64 a2, .int .i64 a3] 326)).alloc (o := .cells #[.string k2, .int .i64 b1, .int .i64 b2, .int .i64 b3] 326))
  obtain ⟨e, he⟩ : ∃ e, decide (a1 < b1 ∨ (a1 = b1 ∧ a2 < b2)) = e := ⟨_, rfl⟩
  have cL := hide (fun w => Hp_Less a1 a2 b1 b2 e he w)
  have hc : (e = true ∧ d = true) ∨ (e = false ∧ ((¬ a1 = b1 ∧ d = false) ∨ (a1 = b1 ∧ ¬ a2 = b2 ∧ d = false) ∨ (a1 = b1 ∧ a2 = b2 ∧ a3 < b3 ∧ d = true) ∨ (a1 = b1 ∧ a2 = b2 ∧ ¬ a3 < b3 ∧ d = false))) := by
    rw [← hd, ← he]
    by_cases h1 : a1 < b1 ∨ (a1 = b1 ∧ a2 < b2)
    · exact .inl ⟨decide_eq_true h1, decide_eq_true (by omega)⟩
    · refine .inr ⟨decide_eq_false h1, ?_⟩
      by_cases h2 : a1 = b1
      · by_cases h3 : a2 = b2
        · by_cases h4 : a3 < b3
          · exact .inr (.inr (.inl ⟨h2, h3, h4, decide_eq_true (by omega)⟩))
          · exact .inr (.inr (.inr ⟨h2, h3, h4, decide_eq_false (by omega)⟩))
        · exact .inr (.inl ⟨h2, h3, decide_eq_false (by omega)⟩)
      · exact .inl ⟨h2, decide_eq_false (by omega)⟩
  clear hd he
  rcases hc with ⟨rfl, rfl⟩ | ⟨rfl, ⟨h2, rfl⟩ | ⟨rfl, h3, rfl⟩ | ⟨rfl, rfl, h4, rfl⟩ | ⟨rfl, rfl, h4, rfl⟩⟩
  · go_enter Tryz.func232, Tryz.ntmps232
    go_wp2_with (go_at_call 253; (with_reducible refine (cL.out _).mono ?_); rintro r w1 ⟨rfl, k1⟩; have k1 := hide k1)
    go_ret
    exact ⟨rfl, hK.out.trans k1.out⟩
  · have h2' : (a1 == b1) = false := beq_eq_false_iff_ne.2 h2
    go_enter Tryz.func232, Tryz.ntmps232
    go_wp2_with (go_at_call 253; (with_reducible refine (cL.out _).mono ?_); rintro r w1 ⟨rfl, kk⟩; obtain ⟨⟨x0, x1, x2, x3⟩, ⟨y0, y1, y2, y3⟩⟩ := boxes4 kk; have kk := hide kk)
    go_ret
    exact ⟨by first | rfl | simp; omega, hK.out.trans kk.out⟩
  · have h3' : (a2 == b2) = false := beq_eq_false_iff_ne.2 h3
    go_enter Tryz.func232, Tryz.ntmps232
    go_wp2_with (go_at_call 253; (with_reducible refine (cL.out _).mono ?_); rintro r w1 ⟨rfl, kk⟩; obtain ⟨⟨x0, x1, x2, x3⟩, ⟨y0, y1, y2, y3⟩⟩ := boxes4 kk; have kk := hide kk)
    go_ret
    exact ⟨by first | rfl | simp; omega, hK.out.trans kk.out⟩
  · skip
    go_enter Tryz.func232, Tryz.ntmps232
    go_wp2_with (go_at_call 253; (with_reducible refine (cL.out _).mono ?_); rintro r w1 ⟨rfl, kk⟩; obtain ⟨⟨x0, x1, x2, x3⟩, ⟨y0, y1, y2, y3⟩⟩ := boxes4 kk; have kk := hide kk)
    go_ret
    exact ⟨by first | rfl | simp; omega, hK.out.trans kk.out⟩
  · skip
    go_enter Tryz.func232, Tryz.ntmps232
    go_wp2_with (go_at_call 253; (with_reducible refine (cL.out _).mono ?_); rintro r w1 ⟨rfl, kk⟩; obtain ⟨⟨x0, x1, x2, x3⟩, ⟨y0, y1, y2, y3⟩⟩ := boxes4 kk; have kk := hide kk)
    go_ret
    exact ⟨by first | rfl | simp; omega, hK.out.trans kk.out⟩
end Go.Proofs.YtbbdimlpofjlfaaGreatDoor
/- A heap of keys: in memory; put. -/
namespace Go.Proofs.YtbbdimlpofjlfaaGreatDoor
open Go Go.RowKit

/-- A heap's parts. -/
def HpRaw (b : Nat) (vl : Value) (mb : Nat) (came : Int) (es : List HE) (m : Assoc) (F : List SProp) : List SProp :=
  pts b (.cells #[vl, .map (some mb), .int .i64 came] 321) :: OwnRow 326 4 vl es.length (heCells es) :: OwnMap mb m :: F
/-- A heap of keys at block b. -/
def IsHeap (b : Nat) (srt : List HE) (came : Int) : SProp := fun h => ∃ es m vl mb, (HOk es m srt came ∧ es.length ≤ 1000000) ∧
  All [pts b (.cells #[vl, .map (some mb), .int .i64 came] 321), OwnRow 326 4 vl es.length (heCells es), OwnMap mb m] h
theorem Holds.isHeap {g w : World} {b : Nat} {srt : List HE} {came : Int} {F : List SProp} (h : Holds g w (IsHeap b srt came :: F)) : ∃ es m vl mb, HOk es m srt came ∧ es.length ≤ 1000000 ∧ Holds g w (HpRaw b vl mb came es m F) := by
  obtain ⟨es, h⟩ := h.unex
  obtain ⟨m, h⟩ := h.unex
  obtain ⟨vl, h⟩ := h.unex
  obtain ⟨mb, h⟩ := h.unex
  obtain ⟨⟨h1, h2⟩, h⟩ := h.unfact
  exact ⟨es, m, vl, mb, h1, h2, h.unall⟩
theorem Holds.toHeap {g w : World} {b mb : Nat} {vl : Value} {es : List HE} {m : Assoc} {srt : List HE} {came : Int} {F : List SProp} (h1 : HOk es m srt came) (h2 : es.length ≤ 1000000) (h : Holds g w (HpRaw b vl mb came es m F)) : Holds g w (IsHeap b srt came :: F) := by
  have h' : Holds g w (All [pts b (.cells #[vl, .map (some mb), .int .i64 came] 321), OwnRow 326 4 vl es.length (heCells es), OwnMap mb m] :: F) := Holds.all h
  exact h'.head fun x hx => ⟨es, m, vl, mb, ⟨h1, h2⟩, hx⟩
set_option maxRecDepth 100000 in
theorem Hp_New {g w : World} {F : List SProp} (h : Holds g w F) :
    Calls Tryz.prog 169 #[] w fun r w' => ∃ b, r = .returned (.pointer (some ⟨b, 0, none⟩)) ∧ Holds g w' (IsHeap b [] 0 :: F) := by
  have h := hide h
  have hmm := @run_makeMap Tryz.prog
  go_enter Tryz.func169, Tryz.ntmps169
  go_wp2
  go_ret
  have H2 := (h.out.newMap.alloc (o := .cells #[.slice none 0 0, .map (some w.heap.size), .int .i64 0] 321)).ownNil 326 4
  simp only [World.size_alloc] at H2
  exact ⟨_, rfl, Holds.toHeap HOk.new (by decide) H2.p1⟩
set_option maxRecDepth 100000 in
theorem Hp_Len {g w : World} {b : Nat} {srt : List HE} {came : Int} {F : List SProp} (h : Holds g w (IsHeap b srt came :: F)) (n : Nat) (hn : srt.length = n) :
    Calls Tryz.prog 171 #[.pointer (some ⟨b, 0, none⟩)] w fun r w' => r = .returned (.int .i64 n) ∧ w = w' := by
  obtain ⟨es, m, vl, mb, hok, _, h⟩ := h.isHeap
  unfold HpRaw at h
  have hl : es.length = n := by rw [hok.len, hn]
  rw [hl] at h
  obtain ⟨ao, cap, rfl⟩ := rowForm h.p1.ownsRow
  have c0 : w.cell? ⟨b, 0, none⟩ = some (.slice ao n cap) := h.cell rfl
  clear h hok hl hn
  go_enter Tryz.func171, Tryz.ntmps171
  go_wp2
  go_ret
  exact ⟨rfl, rfl⟩
set_option maxRecDepth 100000 in
set_option maxHeartbeats 1000000 in
theorem Hp_put {g w : World} {b mb : Nat} {vl : Value} {came : Int} {es : List HE} {m : Assoc} {F : List SProp} (h : Holds g w (HpRaw b vl mb came es m F)) (i : Nat) (hi : i < es.length) (x : HE) :
    Calls Tryz.prog 227 #[.pointer (some ⟨b, 0, none⟩), .int .i64 i, heV x] w fun r w' => r = .returned (.tuple #[]) ∧ Holds g w' (HpRaw b vl mb came (es.set i x) (m.put x.key (.int .i64 (i : Nat))) F) := by
  obtain ⟨xk, x1, x2, x3⟩ := x
  unfold HpRaw heV at *
  dsimp only
  obtain ⟨n, hn⟩ : ∃ n, es.length = n := ⟨_, rfl⟩
  have hg := heCells_get es i hi
  have hs := heCells_set es i ⟨xk, x1, x2, x3⟩ hi
  rw [List.length_set]
  rw [hn] at h hi ⊢
  rcases h.p1.rowShape with ⟨_, h0, _⟩ | ⟨q, cap, rfl⟩
  · omega
  have HA := h.alloc (o := .cells #[.string xk, .int .i64 x1, .int .i64 x2, .int .i64 x3] 326)
  obtain ⟨xb, hxb⟩ : ∃ xb, w.heap.size = xb := ⟨_, rfl⟩
  rw [hxb] at HA
  obtain ⟨W1, hW1⟩ : ∃ W1, w.alloc (.cells #[.string xk, .int .i64 x1, .int .i64 x2, .int .i64 x3] 326) = W1 := ⟨_, rfl⟩
  rw [hW1] at HA
  have HA := hide HA
  go_enter Tryz.func227, Tryz.ntmps227
  go_upto_region 1 with fail
  try simp only [hxb]
  try rw [hW1]
  clear hW1 hxb h
  have c0 : W1.cell? ⟨b, 0, none⟩ = some (.slice (some ⟨q, 0, none⟩) n cap) := HA.out.p1.cell rfl
  have y0 : W1.cell? ⟨xb, 0, none⟩ = some (.string xk) := HA.out.cell rfl
  have y1 : W1.cell? ⟨xb, 1, none⟩ = some (.int .i64 x1) := HA.out.cell rfl
  have y2 : W1.cell? ⟨xb, 2, none⟩ = some (.int .i64 x2) := HA.out.cell rfl
  have y3 : W1.cell? ⟨xb, 3, none⟩ = some (.int .i64 x3) := HA.out.cell rfl
  have z0 := HA.out.p2.rowCell hg.1
  have z1 := HA.out.p2.rowCell hg.2.1
  have z2 := HA.out.p2.rowCell hg.2.2.1
  have z3 := HA.out.p2.rowCell hg.2.2.2
  have f0 := HA.out.p2.rowFree (j := i * 4)
  have f1 := HA.out.p2.rowFree (j := i * 4 + 1)
  have f2 := HA.out.p2.rowFree (j := i * 4 + 2)
  have f3 := HA.out.p2.rowFree (j := i * 4 + 3)
  have hil : (i : Int) < n := by omega
  have nq : (¬ q = xb) ∧ ¬ q = b := by
    obtain ⟨cur, _, hh⟩ := HA.out.p2.rowPts
    exact ⟨hh.ne, fun e => hh.p2.ne e.symm⟩
  obtain ⟨n1, n2⟩ := nq
  have HS := ((((HA.out.p2.rowSet (i * 4) (.string xk)).rowSet (i * 4 + 1) (.int .i64 x1)).rowSet (i * 4 + 2) (.int .i64 x2)).rowSet (i * 4 + 3) (.int .i64 x3)).drew
  rw [← hs] at HS
  have HS := hide HS
  clear hg hs
  go_region_held3 (fun w' => w'.cell? ⟨b, 0, none⟩ = some (.slice (some ⟨q, 0, none⟩) n cap) ∧ w'.cell? ⟨xb, 0, none⟩ = some (.string xk) ∧ w'.cell? ⟨xb, 1, none⟩ = some (.int .i64 x1) ∧ w'.cell? ⟨xb, 2, none⟩ = some (.int .i64 x2) ∧ w'.cell? ⟨xb, 3, none⟩ = some (.int .i64 x3)) (go_keep) (fail)
  all_goals
    clear c0 y0 y1 y2 y3 z0 z1 z2 z3 f0 f1 f2 f3 HA
    generalize ((((W1.setCell ⟨q, i * 4, none⟩ (.string xk)).setCell ⟨q, i * 4 + 1, none⟩ (.int .i64 x1)).setCell ⟨q, i * 4 + 2, none⟩ (.int .i64 x2)).setCell ⟨q, i * 4 + 3, none⟩ (.int .i64 x3)).drew = W2 at HS ⊢
    have c1 : W2.cell? ⟨b, 1, none⟩ = some (.map (some mb)) := HS.out.p2.cell rfl
    have y0 : W2.cell? ⟨xb, 0, none⟩ = some (.string xk) := HS.out.p1.cell rfl
    obtain ⟨w5, hup, H5⟩ := HS.out.drew.p3.updateMap (P := Tryz.prog) (t := 148) Tryz.underlying148 Tryz.underlying9 xk (.int .i64 (i : Nat))
    have H5 := hide H5
    have c1' : w5.cell? ⟨b, 1, none⟩ = some (.map (some mb)) := H5.out.p3.cell rfl
    have y0' : w5.cell? ⟨xb, 0, none⟩ = some (.string xk) := H5.out.p2.cell rfl
    go_wp2
    go_region_held3 (fun w' => w'.cell? ⟨b, 1, none⟩ = some (.map (some mb)) ∧ w'.cell? ⟨xb, 0, none⟩ = some (.string xk)) (go_keep) (fail)
    all_goals
      go_wp2
      go_end0
      exact ⟨rfl, H5.out.p2.drop.p1.p2⟩
end Go.Proofs.YtbbdimlpofjlfaaGreatDoor
/- A heap of keys: settle. -/
namespace Go.Proofs.YtbbdimlpofjlfaaGreatDoor
open Go Go.RowKit

/-- What settle holds. -/
def HpSt (ib xb hb : Nat) (i : Nat) (x : HE) (b : Nat) (vl : Value) (mb : Nat) (came : Int) (es : List HE) (m : Assoc) (F : List SProp) : List SProp :=
  pts ib (.cells #[.int .i64 (i : Nat)] 3) :: pts xb (.cells #[.string x.key, .int .i64 x.one, .int .i64 x.two, .int .i64 x.came] 326) :: pts hb (.cells #[.pointer (some ⟨b, 0, none⟩)] 245) :: HpRaw b vl mb came es m F
theorem hp_facts {g w : World} {ib xb hb i b mb n cap q : Nat} {x : HE} {came : Int} {es : List HE} {m : Assoc} {F : List SProp} (hn : es.length = n) (h : Holds g w (HpSt ib xb hb i x b (.slice (some ⟨q, 0, none⟩) n cap) mb came es m F)) :
    (w.cell? ⟨ib, 0, none⟩ = some (.int .i64 (i : Nat)) ∧ w.cell? ⟨hb, 0, none⟩ = some (.pointer (some ⟨b, 0, none⟩)) ∧ w.cell? ⟨b, 0, none⟩ = some (.slice (some ⟨q, 0, none⟩) n cap)) ∧
    (w.cell? ⟨xb, 0, none⟩ = some (.string x.key) ∧ w.cell? ⟨xb, 1, none⟩ = some (.int .i64 x.one) ∧ w.cell? ⟨xb, 2, none⟩ = some (.int .i64 x.two) ∧ w.cell? ⟨xb, 3, none⟩ = some (.int .i64 x.came)) ∧
    (∀ j, j < n → w.cell? ⟨q, j * 4, none⟩ = some (.string (hG es j).key) ∧ w.cell? ⟨q, j * 4 + 1, none⟩ = some (.int .i64 (hG es j).one) ∧ w.cell? ⟨q, j * 4 + 2, none⟩ = some (.int .i64 (hG es j).two) ∧ w.cell? ⟨q, j * 4 + 3, none⟩ = some (.int .i64 (hG es j).came)) := by
  unfold HpSt HpRaw at h
  refine ⟨⟨h.cell rfl, h.p2.cell rfl, h.p3.cell rfl⟩, ⟨h.p1.cell rfl, h.p1.cell rfl, h.p1.cell rfl, h.p1.cell rfl⟩, fun j hj => ?_⟩
  obtain ⟨g0, g1, g2, g3⟩ := heCells_get es j (by omega)
  have hr := h.p4
  rw [hn] at hr
  exact ⟨hr.rowCell g0, hr.rowCell g1, hr.rowCell g2, hr.rowCell g3⟩
set_option maxRecDepth 100000 in
set_option maxHeartbeats 1000000 in
theorem Hp_up {g w : World} {ib xb hb i b mb n cap q : Nat} {x : HE} {came : Int} {es : List HE} {m : Assoc} {F : List SProp} (hn : es.length = n) (h : Holds g w (HpSt ib xb hb i x b (.slice (some ⟨q, 0, none⟩) n cap) mb came es m F)) (hi : i < n) (hnl : n ≤ 1000000)
    (d : Bool) (hd : decide (0 < i ∧ hLt x (hG es ((i - 1) / 2))) = d) :
    Calls Tryz.prog 250 #[.pointer (some ⟨ib, 0, none⟩), .pointer (some ⟨xb, 0, none⟩), .pointer (some ⟨hb, 0, none⟩)] w fun r w' => r = .returned (.bool d) ∧ Keep w w' := by
  obtain ⟨⟨c0, c1, c2⟩, ⟨x0, x1, x2, x3⟩, hc⟩ := hp_facts hn h
  by_cases h0 : i = 0
  · subst h0
    obtain rfl : d = false := by rw [← hd]; exact decide_eq_false (by omega)
    have kq := hide (Keep.refl w)
    clear hd hc h
    go_enter Tryz.func250, Tryz.ntmps250
    go_wp2
    go_quiet (fail)
    go_wp2
    go_ret
    exact ⟨rfl, kq.out.drewN⟩
  · obtain ⟨p, hp⟩ : ∃ p, (i - 1) / 2 = p := ⟨_, rfl⟩
    rw [hp] at hd
    obtain ⟨y0, y1, y2, y3⟩ := hc p (by omega)
    obtain ⟨y, hy⟩ : ∃ y, hG es p = y := ⟨_, rfl⟩
    rw [hy] at hd y0 y1 y2 y3
    have hd' : decide (hLt x y) = d := by
      rw [← hd]
      by_cases hh : hLt x y
      · rw [decide_eq_true hh, decide_eq_true ⟨by omega, hh⟩]
      · rw [decide_eq_false hh, decide_eq_false (fun h => hh h.2)]
    have cA := hide (fun w => Hp_ahead x y d hd' w)
    unfold heV at cA
    have i0 : (0 : Int) < i := by omega
    have i1 : 0 < i := by omega
    have f1 : IntKind.i64.wrap ((i : Int) - 1) = (i : Int) - 1 := IntWalk.i64_in _ (by omega)
    have f2 : ((i : Int) - 1) / 2 = (p : Int) := by omega
    have f3 : ((i : Int) - 1).tdiv 2 = (p : Int) := by rw [Int.tdiv_eq_ediv_of_nonneg (by omega)]; exact f2
    have f4 : IntKind.i64.wrap (p : Int) = (p : Int) := IntWalk.i64_in _ (by omega)
    have hpn : (p : Int) < n := by omega
    have st := hide (fun w' (k : Keep w w') => And.intro (k.cell c0) (And.intro (k.cell c1) (And.intro (k.cell c2) (And.intro (k.cell x0) (And.intro (k.cell x1) (And.intro (k.cell x2) (And.intro (k.cell x3) (And.intro (k.cell y0) (And.intro (k.cell y1) (And.intro (k.cell y2) (k.cell y3)))))))))))
    have kq := hide (Keep.refl w).drew
    clear hd hd' hc h hp hy c0 c1 c2 x0 x1 x2 x3 y0 y1 y2 y3 h0 hn
    go_enter Tryz.func250, Tryz.ntmps250
    go_wp2
    go_region_held3 (fun w' => w'.cell? ⟨ib, 0, none⟩ = some (.int .i64 (i : Nat)) ∧ w'.cell? ⟨hb, 0, none⟩ = some (.pointer (some ⟨b, 0, none⟩)) ∧ w'.cell? ⟨b, 0, none⟩ = some (.slice (some ⟨q, 0, none⟩) n cap) ∧ w'.cell? ⟨xb, 0, none⟩ = some (.string x.key) ∧ w'.cell? ⟨xb, 1, none⟩ = some (.int .i64 x.one) ∧ w'.cell? ⟨xb, 2, none⟩ = some (.int .i64 x.two) ∧ w'.cell? ⟨xb, 3, none⟩ = some (.int .i64 x.came) ∧ w'.cell? ⟨q, p * 4, none⟩ = some (.string y.key) ∧ w'.cell? ⟨q, p * 4 + 1, none⟩ = some (.int .i64 y.one) ∧ w'.cell? ⟨q, p * 4 + 2, none⟩ = some (.int .i64 y.two) ∧ w'.cell? ⟨q, p * 4 + 3, none⟩ = some (.int .i64 y.came)) (exact st.out _ kq.out)
      ((go_at_call 232; (with_reducible refine (cA.out _).mono ?_); rintro r wn ⟨rfl, h⟩; replace kq := hide (kq.out.trans h); clear h))
    all_goals
      go_wp2
      go_ret
      exact ⟨by first | rfl | simp, kq.out⟩
theorem hp_S {g w : World} {ib xb hb i b mb n cap q p : Nat} {x y : HE} {came : Int} {es : List HE} {m : Assoc} {F : List SProp} (hn : es.length = n) (hp : p < n) (hy : hG es p = y) (h : Holds g w (HpSt ib xb hb i x b (.slice (some ⟨q, 0, none⟩) n cap) mb came es m F)) : (fun w' => w'.cell? ⟨ib, 0, none⟩ = some (.int .i64 (i : Nat)) ∧ w'.cell? ⟨hb, 0, none⟩ = some (.pointer (some ⟨b, 0, none⟩)) ∧ w'.cell? ⟨b, 0, none⟩ = some (.slice (some ⟨q, 0, none⟩) n cap) ∧ w'.cell? ⟨xb, 0, none⟩ = some (.string x.key) ∧ w'.cell? ⟨xb, 1, none⟩ = some (.int .i64 x.one) ∧ w'.cell? ⟨xb, 2, none⟩ = some (.int .i64 x.two) ∧ w'.cell? ⟨xb, 3, none⟩ = some (.int .i64 x.came) ∧ w'.cell? ⟨q, p * 4, none⟩ = some (.string y.key) ∧ w'.cell? ⟨q, p * 4 + 1, none⟩ = some (.int .i64 y.one) ∧ w'.cell? ⟨q, p * 4 + 2, none⟩ = some (.int .i64 y.two) ∧ w'.cell? ⟨q, p * 4 + 3, none⟩ = some (.int .i64 y.came)) w := by
  obtain ⟨⟨c0, c1, c2⟩, ⟨x0, x1, x2, x3⟩, hc⟩ := hp_facts hn h
  obtain ⟨y0, y1, y2, y3⟩ := hc p hp
  rw [hy] at y0 y1 y2 y3
  exact ⟨c0, c1, c2, x0, x1, x2, x3, y0, y1, y2, y3⟩
/-- put, in the midst of settle. -/
theorem Hp_putIn {g w : World} {ib xb hb i b mb n cap q : Nat} {x : HE} {came : Int} {es : List HE} {m : Assoc} {F : List SProp} (hn : es.length = n) (h : Holds g w (HpSt ib xb hb i x b (.slice (some ⟨q, 0, none⟩) n cap) mb came es m F)) (hi : i < n) (y : HE) :
    Calls Tryz.prog 227 #[.pointer (some ⟨b, 0, none⟩), .int .i64 i, heV y] w fun r w' => r = .returned (.tuple #[]) ∧ Holds g w' (HpSt ib xb hb i x b (.slice (some ⟨q, 0, none⟩) n cap) mb came (es.set i y) (m.put y.key (.int .i64 (i : Nat))) F) := by
  unfold HpSt HpRaw at h
  refine (Hp_put (by unfold HpRaw; exact h.p5.p5.p5) i (by omega) y).mono ?_
  rintro r w' ⟨rfl, h3⟩
  unfold HpRaw at h3
  unfold HpSt HpRaw
  exact ⟨rfl, h3.p5.p5.p5⟩
end Go.Proofs.YtbbdimlpofjlfaaGreatDoor
