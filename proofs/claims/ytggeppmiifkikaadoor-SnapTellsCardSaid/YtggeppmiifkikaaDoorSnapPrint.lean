/- snap.Print. -/
import Derived.Test.YtggeppmiifkikaaDoorSnapBuild
import Derived.Test.YtggeppmiifkikaaDoorLays
namespace Go.Proofs.YtggeppmiifkikaaDoor
open Go Go.RowKit Go.Shelf

def beB (v n : Nat) : List UInt8 := (beN v n).map UInt8.ofNat
theorem strN_eq (v n : Nat) : strN (beN v n) = ⟨(beB v n).toArray⟩ := by
  unfold strN strOfNums beB
  simp [Function.comp_def]
theorem beB_length (v n : Nat) : (beB v n).length = n := by simp [beB, beN_length]
def headL (p : Pic) : List Int := [p.c.size, p.c.shift, p.c.window, p.c.margin, p.c.hold, p.c.quota, p.c.pin + 1, p.kind, p.now, (p.items.length : Int)]
def be8 (n : Int) : List UInt8 := beB n.toNat 8
def hd0 : List UInt8 := [67, 87, 1]
def headK (p : Pic) (k : Nat) : List UInt8 := hd0 ++ ((headL p).take k).flatMap be8
def headB (p : Pic) : List UInt8 := headK p 10
def itB (x : It) : List UInt8 := beB x.key.size 1 ++ x.key.data.toList ++ beB x.val.size 2 ++ x.val.data.toList ++ beB x.dl.toNat 8
def bodyB (p : Pic) : List UInt8 := headB p ++ p.items.flatMap itB
def printB (p : Pic) : List UInt8 := bodyB p ++ beB (hashN (bodyB p)) 8
def bc (l : List UInt8) : List Value := l.map fun b => Value.int .u8 b.toNat
theorem Keep.below {g w w' : World} (k : Keep g w) (h : Below g.heap.size w w') : Keep g w' := by
  refine ⟨?_, ?_, ?_, Nat.le_trans k.size h.size, fun i o e => ?_⟩
  · exact h.os.trans k.os
  · exact h.output.trans k.output
  · exact h.tape.trans k.tape
  · have hl : i < g.heap.size := by
      rcases Nat.lt_or_ge i g.heap.size with h' | h'
      · exact h'
      · simp [Array.getElem?_eq_none h'] at e
    rw [h.block i hl]
    exact k.block i o e
theorem strCells_bc (s : ByteArray) : Lib.strCells s = bc s.data.toList := rfl
theorem bc_append (a b : List UInt8) : bc (a ++ b) = bc a ++ bc b := by simp [bc]
theorem bc_length (a : List UInt8) : (bc a).length = a.length := by simp [bc]
/-- A strings.Builder at block b that holds l. -/
def IsB (b : Nat) (l : List UInt8) : SProp := fun h => ∃ p v, (p = .pointer none ∨ p = .pointer (some ⟨b, 0, none⟩)) ∧ All [pts b (.cells #[p, v] 67), OwnRow 5 1 v l.length (bc l)] h
theorem Holds.isB {g w : World} {b : Nat} {l : List UInt8} {F : List SProp} (h : Holds g w (IsB b l :: F)) : ∃ p v, (p = .pointer none ∨ p = .pointer (some ⟨b, 0, none⟩)) ∧ Holds g w (pts b (.cells #[p, v] 67) :: OwnRow 5 1 v l.length (bc l) :: F) := by
  obtain ⟨p, h⟩ := h.unex
  obtain ⟨v, h⟩ := h.unex
  obtain ⟨hp, h⟩ := h.unfact
  exact ⟨p, v, hp, h.unall⟩
theorem Holds.toB {g w : World} {b : Nat} {l : List UInt8} {F : List SProp} {p v : Value} (hp : p = .pointer none ∨ p = .pointer (some ⟨b, 0, none⟩)) (h : Holds g w (pts b (.cells #[p, v] 67) :: OwnRow 5 1 v l.length (bc l) :: F)) : Holds g w (IsB b l :: F) := by
  have h' : Holds g w (All [pts b (.cells #[p, v] 67), OwnRow 5 1 v l.length (bc l)] :: F) := Holds.all h
  exact h'.head fun x hx => ⟨p, v, hp, hx⟩
theorem Holds.newB {g w : World} {L : List SProp} (h : Holds g w L) : Holds g (w.alloc (.cells #[.pointer none, .slice none 0 0] 67)) (IsB w.heap.size [] :: L) :=
  Holds.toB (.inl rfl) (h.alloc.ownNil _ 1).p1
theorem WriteB {g w : World} {b : Nat} {l : List UInt8} {F : List SProp} (h : Holds g w (IsB b l :: F)) (s : ByteArray) (hl : l.length + s.size ≤ 10000000) :
    Calls Tryd.prog 26 #[.pointer (some ⟨b, 0, none⟩), .string s] w fun r w' => r = .returned (.tuple #[.int .i64 s.size, .nilIface]) ∧ Holds g w' (IsB b (l ++ s.data.toList) :: F) := by
  obtain ⟨p, v, hp, h⟩ := h.isB
  refine (WriteStr hp h s hl).mono ?_
  rintro r w' ⟨v', rfl, h'⟩
  refine ⟨rfl, Holds.toB (.inr rfl) (v := v') ?_⟩
  rw [strCells_bc, ← bc_append] at h'
  have e : (l ++ s.data.toList).length = l.length + s.size := by rw [List.length_append]; rfl
  rw [e]
  exact h'
theorem Num (v n : Nat) (hv : v < 18446744073709551616) (hn : n ≤ 8) (w : World) :
    Calls Tryd.prog 27 #[.int .u64 v, .int .i64 n] w fun r w' => r = .returned (.string ⟨(beB v n).toArray⟩) ∧ Keep w w' := by
  have := Snap_number v n hv hn w
  rwa [strN_eq] at this
theorem Num8 (v : Nat) (hv : v < 18446744073709551616) (w : World) : Calls Tryd.prog 27 #[.int .u64 v, .int .i64 8] w fun r w' => r = .returned (.string ⟨(beB v 8).toArray⟩) ∧ Keep w w' := Num v 8 hv (by omega) w
theorem Num1 (v : Nat) (hv : v < 18446744073709551616) (w : World) : Calls Tryd.prog 27 #[.int .u64 v, .int .i64 1] w fun r w' => r = .returned (.string ⟨(beB v 1).toArray⟩) ∧ Keep w w' := Num v 1 hv (by omega) w
theorem Num2 (v : Nat) (hv : v < 18446744073709551616) (w : World) : Calls Tryd.prog 27 #[.int .u64 v, .int .i64 2] w fun r w' => r = .returned (.string ⟨(beB v 2).toArray⟩) ∧ Keep w w' := Num v 2 hv (by omega) w
theorem Num1_val (v : Nat) (s : ByteArray) (h : ⟨(beB v 1).toArray⟩ = s) (hv : v < 18446744073709551616) (w : World) : Calls Tryd.prog 27 #[.int .u64 v, .int .i64 1] w fun r w' => r = .returned (.string s) ∧ Keep w w' := by subst h; exact Num1 v hv w
theorem Num2_val (v : Nat) (s : ByteArray) (h : ⟨(beB v 2).toArray⟩ = s) (hv : v < 18446744073709551616) (w : World) : Calls Tryd.prog 27 #[.int .u64 v, .int .i64 2] w fun r w' => r = .returned (.string s) ∧ Keep w w' := by subst h; exact Num2 v hv w
theorem Num8_val (v : Nat) (s : ByteArray) (h : ⟨(beB v 8).toArray⟩ = s) (hv : v < 18446744073709551616) (w : World) : Calls Tryd.prog 27 #[.int .u64 v, .int .i64 8] w fun r w' => r = .returned (.string s) ∧ Keep w w' := by subst h; exact Num8 v hv w
theorem Holds.isBuilder {g w : World} {b : Nat} {l : List UInt8} {F : List SProp} (h : Holds g w (IsB b l :: F)) : Lib.IsBuilder 67 5 g.heap.size b (Lib.byteCells l) w := by
  obtain ⟨p, v, hp, h⟩ := h.isB
  have ho := h.p1.ownsRow
  have e : Lib.byteCells l = bc l := rfl
  have hn : (Lib.byteCells l).length = l.length := by rw [e]; exact bc_length l
  have hne : v.ownBlock ≠ some b := fun hv => by
    rcases ho.2 with ⟨rfl, _⟩ | ⟨q, cap, cur, rfl, _, hq, _⟩
    · cases hv
    · obtain rfl : q = b := by simpa [Value.ownBlock] using hv
      have := h.block.symm.trans hq
      simp at this
  have hat : Lib.BuilderAt 67 5 g.heap.size b p (Lib.byteCells l) w := ⟨h.new, v, h.block, by rw [hn, e]; exact ho, hne⟩
  rcases hp with rfl | rfl
  · exact .inl hat
  · exact .inr hat
theorem bExtra : Builder.Extra Tryd.prog Tryd.lays169_ren := {
  sizeBuilder := by kernel_rfl
  liesBuilder := by kernel_rfl
  t5 := Tryd.underlying5
  a5 := Tryd.isAgg5
  z5 := Tryd.sizeOf5
  v5 := Tryd.zeroValue5
  infoByte := by kernel_rfl
  cellsByte := by kernel_rfl
  sizeByte := by kernel_rfl
  neB5 := by decide }
theorem StrF {B b : Nat} {l : List UInt8} {w : World} (h : Lib.IsBuilderF 67 5 B b (Lib.byteCells l) w) (hB : B ≤ w.heap.size) :
    Calls Tryd.prog 28 #[.pointer (some ⟨b, 0, none⟩)] w fun e w' => e = .returned (.string ⟨l.toArray⟩) ∧ (Lib.IsBuilderF 67 5 B b (Lib.byteCells l) w' ∧ Below B w w') :=
  Any.Builder_String_any_f Tryd.lays169 bExtra B b l w h hB
theorem hashN_lt (l : List UInt8) : hashN l < 18446744073709551616 := by
  have h : ∀ x, hmix (18397679294719823053 * x % 18446744073709551616) < 18446744073709551616 := fun x => by
    unfold hmix
    have h1 : 18397679294719823053 * x % 18446744073709551616 < 2 ^ 64 := Nat.mod_lt _ (by omega)
    obtain ⟨y, hy⟩ : ∃ y, 18397679294719823053 * x % 18446744073709551616 = y := ⟨_, rfl⟩
    rw [hy] at h1 ⊢
    exact Nat.xor_lt_two_pow h1 (Nat.lt_of_le_of_lt (Nat.div_le_self _ _) h1)
  exact h _
theorem pic_all {g w : World} {b : Nat} {p : Pic} {v : Value} {t : TypeId} {fz : Nat × Nat} {F : List SProp} (h : Holds g w (pts b (.cells (picCells p v) t fz) :: F)) :
    w.cell? ⟨b, 0, none⟩ = some (.int .i64 p.c.size) ∧ w.cell? ⟨b, 1, none⟩ = some (.int .i64 p.c.shift) ∧ w.cell? ⟨b, 2, none⟩ = some (.int .i64 p.c.window) ∧ w.cell? ⟨b, 3, none⟩ = some (.int .i64 p.c.margin) ∧
    w.cell? ⟨b, 4, none⟩ = some (.int .i64 p.c.hold) ∧ w.cell? ⟨b, 5, none⟩ = some (.int .i64 p.c.quota) ∧ w.cell? ⟨b, 6, none⟩ = some (.int .i64 p.c.pin) ∧ w.cell? ⟨b, 7, none⟩ = some (.int .i64 p.kind) ∧ w.cell? ⟨b, 8, none⟩ = some (.int .i64 p.now) ∧ w.cell? ⟨b, 9, none⟩ = some v :=
  ⟨h.cell rfl, h.cell rfl, h.cell rfl, h.cell rfl, h.cell rfl, h.cell rfl, h.cell rfl, h.cell rfl, h.cell rfl, h.cell rfl⟩
set_option maxRecDepth 100000 in
set_option maxHeartbeats 4000000 in
theorem Print_err (p : Pic) (v : Value) (w : World) (hv : ItemsAt w v p.items) (e : EV) (he : picE p = .fault tSnap ⟨#[]⟩ e) :
    Calls Tryd.prog 11 #[.agg (picCells p v)] w fun r w' => ∃ u, r = .returned (.tuple #[.string ⟨#[]⟩, u]) ∧ Keep w w' ∧ ErrAt w' (picE p) u := by
  obtain ⟨ao, cap, rfl⟩ := hv.shape
  have h0 := hide ((Holds.start w).alloc (o := .cells (picCells p (.slice ao p.items.length cap)) 26))
  have k0 : Hide (Keep w (w.alloc (.cells #[.int .i64 p.c.size, .int .i64 p.c.shift, .int .i64 p.c.window, .int .i64 p.c.margin, .int .i64 p.c.hold, .int .i64 p.c.quota, .int .i64 p.c.pin, .int .i64 p.kind, .int .i64 p.now, .slice ao p.items.length cap] 26))) := ⟨h0.out.drop.toKeep⟩
  have hR : ∀ w', Keep w w' → Calls Tryd.prog 17 #[.agg #[.int .i64 p.c.size, .int .i64 p.c.shift, .int .i64 p.c.window, .int .i64 p.c.margin, .int .i64 p.c.hold, .int .i64 p.c.quota, .int .i64 p.c.pin, .int .i64 p.kind, .int .i64 p.now, .slice ao p.items.length cap]] w' fun r w'' => ∃ u, r = .returned u ∧ Keep w' w'' ∧ ErrAt w'' (picE p) u := fun w' k => Snap_Right p _ w' (hv.keep k)
  rw [he] at hR ⊢
  have hR := hide hR
  clear hv he
  unfold picCells
  go_enter Tryd.func11, Tryd.ntmps11
  go_wp2_with (go_at_call 17; (with_reducible refine (hR.out _ k0.out).mono ?_); rintro r w1 ⟨u, rfl, hk, he⟩; have hk := hide hk; have he1 := he; obtain ⟨bf, ve, rfl, _⟩ := he1; have he := hide he)
  go_ret2
  exact ⟨_, rfl, h0.out.drop.toKeep.trans hk.out, he.out⟩
/-- What is known of a picture that may be. -/
structure Fine (p : Pic) : Prop where
  err : picE p = .nil
  dl : ∀ x ∈ p.items, 0 ≤ x.dl ∧ x.dl ≤ 9223372036854775807
  len : (bodyB p).length ≤ 90000
theorem fine_cfg {p : Pic} (h : Fine p) : cfgC p.c = 0 := by
  have he := h.err
  by_cases hc : cfgC p.c = 0
  · exact hc
  · rw [picE_cfg hc] at he; cases he
theorem fine_pin {p : Pic} (h : Fine p) : -1 ≤ p.c.pin ∧ p.c.pin ≤ 6 := by
  obtain ⟨n, hn, hc⟩ := cfgC_cases p.c
  have := fine_cfg h
  omega
theorem fine_rest {p : Pic} (h : Fine p) : (0 ≤ p.kind ∧ p.kind ≤ 6) ∧ (0 ≤ p.now ∧ p.now ≤ 1099511627776) ∧ (p.items.length : Int) ≤ p.c.size := by
  have he := h.err
  have hc := fine_cfg h
  by_cases h1 : 0 ≤ p.kind ∧ p.kind ≤ 6
  · by_cases h2 : (0 ≤ p.now ∧ p.now ≤ 1099511627776) ∧ (p.items.length : Int) ≤ p.c.size
    · exact ⟨h1, h2⟩
    · rw [picE_now hc h1 h2] at he; cases he
  · rw [picE_kind hc h1] at he; cases he
def headV (p : Pic) : Array Value := #[.int .i64 p.c.size, .int .i64 p.c.shift, .int .i64 p.c.window, .int .i64 p.c.margin, .int .i64 p.c.hold, .int .i64 p.c.quota, .int .i64 (p.c.pin + 1), .int .i64 p.kind, .int .i64 p.now, .int .i64 (p.items.length : Int)]
theorem headV_get (p : Pic) (k : Nat) (h : k < 10) : (headV p)[k]? = some (.int .i64 ((headL p).getD k 0)) := by
  match k, h with
  | 0, _ | 1, _ | 2, _ | 3, _ | 4, _ | 5, _ | 6, _ | 7, _ | 8, _ | 9, _ => rfl
theorem head_take (p : Pic) (k : Nat) (h : k < 10) : headK p (k + 1) = headK p k ++ beB ((headL p).getD k 0).toNat 8 := by
  unfold headK
  rw [List.take_add_one, List.append_assoc, List.flatMap_append]
  match k, h with
  | 0, _ | 1, _ | 2, _ | 3, _ | 4, _ | 5, _ | 6, _ | 7, _ | 8, _ | 9, _ => simp [headL, be8]
theorem head_bound {p : Pic} (hp : Fine p) (k : Nat) : 0 ≤ (headL p).getD k 0 ∧ (headL p).getD k 0 ≤ 1099511627776 := by
  have h1 := fine_pin hp
  obtain ⟨h2, h3, h4⟩ := fine_rest hp
  obtain ⟨n, hn, hc⟩ := cfgC_cases p.c
  have := fine_cfg hp
  match k with
  | 0 | 1 | 2 | 3 | 4 | 5 | 6 | 7 | 8 | 9 => simp [headL]; omega
  | k + 10 => simp [headL, List.getD]
theorem head_len (p : Pic) (k : Nat) (h : k ≤ 10) : (headK p k).length = 3 + 8 * k := by
  unfold headK
  match k, h with
  | 0, _ | 1, _ | 2, _ | 3, _ | 4, _ | 5, _ | 6, _ | 7, _ | 8, _ | 9, _ | 10, _ => simp [headL, be8, beB_length, hd0]
theorem body_take (p : Pic) (k : Nat) : (headB p ++ (p.items.take k).flatMap itB).length ≤ (bodyB p).length := by
  have e : p.items.flatMap itB = (p.items.take k).flatMap itB ++ (p.items.drop k).flatMap itB := by rw [← List.flatMap_append, List.take_append_drop]
  rw [bodyB, e]
  simp only [List.length_append]
  omega
theorem firstE_nil : ∀ {l : List It}, (firstE l).isNil = true → ∀ x ∈ l, itC x = 0
  | [], _, x, hx => (List.not_mem_nil hx).elim
  | y :: l, h, x, hx => by
    rw [firstE] at h
    by_cases hy : itC y = 0
    · rw [if_pos hy] at h
      rcases List.mem_cons.1 hx with rfl | hx
      · exact hy
      · exact firstE_nil h x hx
    · rw [if_neg hy, itE, if_neg hy] at h
      cases h
theorem fine_item {p : Pic} (hp : Fine p) {k : Nat} {x : It} (hx : p.items[k]? = some x) : x.key.size ≤ 64 ∧ x.val.size ≤ 256 ∧ 0 ≤ x.dl ∧ x.dl ≤ 9223372036854775807 := by
  have hm := List.mem_of_getElem? hx
  have h1 := hp.dl x hm
  obtain ⟨h2, h3, h4⟩ := fine_rest hp
  have he := hp.err
  rw [picE_rest (fine_cfg hp) h2 ⟨h3, h4⟩] at he
  have hn : (firstE p.items).isNil = true := by
    cases hc : (firstE p.items).isNil
    · rw [restE, if_pos hc] at he
      cases hf : firstE p.items <;> rw [hf] at he hc <;> simp [wrapE, EV.isNil] at he hc
    · rfl
  have h5 := firstE_nil hn x hm
  unfold itC at h5
  split at h5
  · omega
  · split at h5
    · omega
    · omega
theorem be_size (v n : Nat) : (⟨(beB v n).toArray⟩ : ByteArray).size = n := by
  show (beB v n).toArray.size = n
  simp [beB_length]
set_option maxRecDepth 100000 in
set_option maxHeartbeats 8000000 in
theorem Print_ok (p : Pic) (v : Value) (w : World) (hv : ItemsAt w v p.items) (hp : Fine p) :
    Calls Tryd.prog 11 #[.agg (picCells p v)] w fun r w' => r = .returned (.tuple #[.string ⟨(printB p).toArray⟩, .nilIface]) ∧ Keep w w' := by
  obtain ⟨ao, cap, rfl⟩ := hv.shape
  have h0 := hide ((Holds.start w).alloc (o := .cells (picCells p (.slice ao p.items.length cap)) 26))
  have k0 : Hide (Keep w (w.alloc (.cells #[.int .i64 p.c.size, .int .i64 p.c.shift, .int .i64 p.c.window, .int .i64 p.c.margin, .int .i64 p.c.hold, .int .i64 p.c.quota, .int .i64 p.c.pin, .int .i64 p.kind, .int .i64 p.now, .slice ao p.items.length cap] 26))) := ⟨h0.out.drop.toKeep⟩
  have hR : ∀ w', Keep w w' → Calls Tryd.prog 17 #[.agg #[.int .i64 p.c.size, .int .i64 p.c.shift, .int .i64 p.c.window, .int .i64 p.c.margin, .int .i64 p.c.hold, .int .i64 p.c.quota, .int .i64 p.c.pin, .int .i64 p.kind, .int .i64 p.now, .slice ao p.items.length cap]] w' fun r w'' => ∃ u, r = .returned u ∧ Keep w' w'' ∧ ErrAt w'' (picE p) u := fun w' k => Snap_Right p _ w' (hv.keep k)
  rw [hp.err] at hR
  have hR := hide hR
  have hv := hide hv
  have f0 : IntKind.i64.wrap (p.c.pin + 1) = p.c.pin + 1 := IntWalk.i64_in _ (by have := fine_pin hp; omega)
  have hp := hide hp
  unfold picCells
  go_enter Tryd.func11, Tryd.ntmps11
  go_wp2_with (first
    | (go_at_call 17; (with_reducible refine (hR.out _ k0.out).mono ?_); rintro r w1 ⟨u, rfl, hk, rfl⟩; have h1 := hide (h0.out.keep hk).newB; clear hk)
    | (go_at_call 26; (with_reducible refine (WriteB h1.out _ (by decide)).mono ?_); rintro r w2 ⟨rfl, h2⟩; obtain ⟨d0, d1, d2, d3, d4, d5, d6, d7, d8, d9⟩ := pic_all h2.p1; have h2 := hide h2))
  have H0 := hide (h2.out.alloc (o := .cells (headV p) 3))
  obtain ⟨bp, hbp⟩ : ∃ bp, w.heap.size = bp := ⟨_, rfl⟩
  obtain ⟨bb, hbb⟩ : ∃ bb, w1.heap.size = bb := ⟨_, rfl⟩
  obtain ⟨bs, hbs⟩ : ∃ bs, w2.heap.size = bs := ⟨_, rfl⟩
  rw [hbp, hbb, hbs] at H0
  simp only [hbp, hbb, hbs]
  clear hbp hbb hbs d0 d1 d2 d3 d4 d5 d6 d7 d8 d9 f0
  go_loopw [47] (fun i wr => ∃ k : Nat, i = .int .i64 k ∧ k ≤ 10 ∧ Holds w wr [pts bs (.cells (headV p) 3), IsB bb (headK p k), pts bp (.cells (picCells p (.slice ao p.items.length cap)) 26)]) (fun i _ => (10 - intOf i).toNat)
  case atStart => exact ⟨0, rfl, Nat.zero_le _, H0.out⟩
  case round =>
    obtain ⟨k, rfl, hk, hh⟩ := hrel
    have H := hide hh
    clear hh
    by_cases hlt : k < 10
    · have hlt' : (k : Int) < 10 := by omega
      have hc := H.out.cell (headV_get p k hlt)
      have hb := head_bound hp.out k
      have hts := head_take p k hlt
      obtain ⟨m, hm⟩ : ∃ m, (headL p).getD k 0 = m := ⟨_, rfl⟩
      rw [hm] at hc hb hts
      have f1 : IntKind.u64.wrap m = ((m.toNat : Nat) : Int) := by rw [IntKind.wrap_u64]; omega
      have hml : m.toNat < 18446744073709551616 := by omega
      obtain ⟨u, hu⟩ : ∃ u, m.toNat = u := ⟨_, rfl⟩
      rw [hu] at f1 hml hts
      have hts := hide hts
      have hlen : Hide ((headK p k).length ≤ 100) := ⟨by rw [head_len p k (by omega)]; omega⟩
      clear hu hm
      go_wp2_with (first
        | (go_at_call 27; (with_reducible refine (Num8 u hml _).mono ?_); rintro r w3 ⟨rfl, h3⟩; have h3 := hide (H.out.keep h3))
        | (go_at_call 26; (with_reducible refine (WriteB h3.out.p1 _ (by have := hlen.out; rw [be_size]; omega)).mono ?_); rintro r w4 ⟨rfl, h4⟩; have h4 := hide h4))
      go_roundw
      case rel => exact ⟨k + 1, by go_num, hlt, by rw [hts.out]; exact h4.out.p1⟩
      case measure => (simp [intOf] <;> omega)
    · obtain rfl : k = 10 := by omega
      rw [show ((10 : Nat) : Int) = 10 from rfl]
      have HB : Hide (Holds w wr [IsB bb (headB p), pts bp (.cells (picCells p (.slice ao p.items.length cap)) 26)]) := ⟨H.out.drop⟩
      have c9 := (pic_all H.out.p2).2.2.2.2.2.2.2.2.2
      clear H
      go_wp2
      obtain ⟨wo, rfl⟩ : ∃ wo : World, wo = wr := ⟨_, rfl⟩
      have hFine := hp.out
      obtain ⟨n, hn⟩ : ∃ n, p.items.length = n := ⟨_, rfl⟩
      have hn0 := hide hn
      have hnl : n ≤ 16777216 := by
        have h1 := (fine_rest hFine).2.2
        have h2 := cfg_size (fine_cfg hFine)
        omega
      clear hFine
      go_loopw [59] (fun i wr => ∃ k : Nat, i = .int .i64 k ∧ k ≤ n ∧ Holds w wr [IsB bb (headB p ++ (p.items.take k).flatMap itB), pts bp (.cells (picCells p (.slice ao p.items.length cap)) 26)]) (fun i _ => (n - intOf i).toNat)
      case atStart => exact ⟨0, rfl, Nat.zero_le _, by rw [List.take_zero, List.flatMap_nil, List.append_nil]; exact HB.out⟩
      case round =>
        obtain ⟨k, rfl, hk, hh⟩ := hrel
        have H := hide hh
        clear hh
        by_cases hlt : k < n
        · have hlt' : (k : Int) < (p.items.length : Int) := by omega
          obtain ⟨x, hx⟩ : ∃ x, p.items[k]? = some x := ⟨_, List.getElem?_eq_getElem (by omega)⟩
          rcases hv.out with ⟨_, hnil⟩ | ⟨b, off, cap', he, e1, e2, e3⟩
          · rw [hnil] at hn
            simp at hn
            omega
          · obtain ⟨rfl, _, rfl⟩ : ao = some ⟨b, off, none⟩ ∧ True ∧ cap = cap' := by
              simp only [Value.slice.injEq] at he
              exact ⟨he.1, trivial, he.2.2⟩
            obtain ⟨q0, q1, q2⟩ := e3 k x hx
            have q0 := H.out.toKeep.cell q0
            have q1 := H.out.toKeep.cell q1
            have q2 := H.out.toKeep.cell q2
            obtain ⟨hi1, hi2, hi3, hi4⟩ := fine_item hp.out hx
            have hlen : Hide ((headB p ++ (p.items.take k).flatMap itB).length ≤ 90000) := ⟨Nat.le_trans (body_take p k) hp.out.len⟩
            obtain ⟨key, u, d⟩ := x
            dsimp only at q0 q1 q2 hi1 hi2 hi3 hi4
            obtain ⟨dn, rfl⟩ : ∃ dn : Nat, d = dn := ⟨d.toNat, by omega⟩
            have hts : Hide ((p.items.take (k + 1)).flatMap itB = (p.items.take k).flatMap itB ++ itB ⟨key, u, dn⟩) := ⟨by rw [List.take_add_one, hx, List.flatMap_append]; simp⟩
            obtain ⟨sa, hsa⟩ : ∃ sa : ByteArray, ⟨(beB key.size 1).toArray⟩ = sa := ⟨_, rfl⟩
            obtain ⟨sb, hsb⟩ : ∃ sb : ByteArray, ⟨(beB u.size 2).toArray⟩ = sb := ⟨_, rfl⟩
            obtain ⟨sc, hsc⟩ : ∃ sc : ByteArray, ⟨(beB dn 8).toArray⟩ = sc := ⟨_, rfl⟩
            have la : sa.size ≤ 1 := by rw [← hsa, be_size]; omega
            have lb : sb.size ≤ 2 := by rw [← hsb, be_size]; omega
            have lc : sc.size ≤ 8 := by rw [← hsc, be_size]; omega
            have hdt : Hide ((sa ++ key ++ sb ++ u ++ sc).data.toList = itB ⟨key, u, dn⟩) := ⟨by rw [← hsa, ← hsb, ← hsc]; simp [itB]⟩
            have hsz : Hide ((sa ++ key ++ sb ++ u ++ sc).size ≤ 331) := ⟨by
              rw [ByteArray.size_append, ByteArray.size_append, ByteArray.size_append, ByteArray.size_append]; omega⟩
            have nA := hide (fun w => Num1_val key.size sa hsa (by omega) w)
            have nB := hide (fun w => Num2_val u.size sb hsb (by omega) w)
            have nC := hide (fun w => Num8_val dn sc hsc (by omega) w)
            clear hsa hsb hsc
            have f1 : IntKind.u64.wrap (key.size : Int) = (key.size : Int) := by rw [IntKind.wrap_u64]; omega
            have f2 : IntKind.u64.wrap (u.size : Int) = (u.size : Int) := by rw [IntKind.wrap_u64]; omega
            have f3 : IntKind.u64.wrap (dn : Int) = (dn : Int) := by rw [IntKind.wrap_u64]; omega
            have f4 : IntKind.i64.wrap ((k : Int) + 1) = ((k + 1 : Nat) : Int) := by rw [show (k : Int) + 1 = ((k + 1 : Nat) : Int) by omega]; exact IntWalk.i64_in _ (by omega)
            have hk1 := hide ((H.out.alloc (o := .cells #[.string key, .string u, .int .i64 dn] 53)).drew)
            have stableH : Hide (∀ w' F, Holds w w' (pts wr.heap.size (.cells #[.string key, .string u, .int .i64 dn] 53) :: F) →
              w'.cell? ⟨wr.heap.size, 0, none⟩ = some (.string key) ∧ w'.cell? ⟨wr.heap.size, 1, none⟩ = some (.string u) ∧ w'.cell? ⟨wr.heap.size, 2, none⟩ = some (.int .i64 dn)) := ⟨fun w' F h => ⟨h.cell rfl, h.cell rfl, h.cell rfl⟩⟩
            clear hx he e3 hn
            have n1 : ¬ 9223372036854775807 < sa.size + key.size := by omega
            have n2 : ¬ 9223372036854775807 < sa.size + key.size + sb.size := by omega
            have n3 : ¬ 9223372036854775807 < sa.size + key.size + sb.size + u.size := by omega
            have n4 : ¬ 9223372036854775807 < sa.size + key.size + sb.size + u.size + sc.size := by omega
            go_wp2
            go_region_held3 (fun w' => w'.cell? ⟨wr.heap.size, 0, none⟩ = some (.string key) ∧ w'.cell? ⟨wr.heap.size, 1, none⟩ = some (.string u) ∧ w'.cell? ⟨wr.heap.size, 2, none⟩ = some (.int .i64 dn))
              (first | exact stableH.out _ _ h4.out.p1 | exact stableH.out _ _ hk1.out)
              ((first
                | (go_at_call 27; (with_reducible refine (nA.out _).mono ?_); rintro r w3 ⟨rfl, h3⟩; replace hk1 := hide (hk1.out.keep h3); clear h3)
                | (go_at_call 27; (with_reducible refine (nB.out _).mono ?_); rintro r w3 ⟨rfl, h3⟩; replace hk1 := hide (hk1.out.keep h3); clear h3)
                | (go_at_call 27; (with_reducible refine (nC.out _).mono ?_); rintro r w3 ⟨rfl, h3⟩; replace hk1 := hide (hk1.out.keep h3); clear h3)
                | (go_at_call 26; (with_reducible refine (WriteB hk1.out.p1 _ (Nat.le_trans (Nat.add_le_add hlen.out hsz.out) (by decide))).mono ?_); rintro r w4 ⟨rfl, h4⟩; have h4 := hide h4)))
            all_goals
              go_wp2
              go_roundw
              case rel => exact ⟨k + 1, by go_num, hlt, by rw [hts.out, ← hdt.out, ← List.append_assoc]; exact h4.out.p1.drop⟩
              case measure => (simp [intOf] <;> omega)
        · obtain rfl : k = n := by omega
          have hlt' : ¬ (k : Int) < (p.items.length : Int) := by omega
          have htk : p.items.take k = p.items := List.take_of_length_le (by omega)
          rw [htk] at H
          have hB : Hide (Lib.IsBuilderF 67 5 w.heap.size bb (Lib.byteCells (bodyB p)) wr) := ⟨Lib.IsBuilderF.of H.out.isBuilder⟩
          have hK := hide H.out.toKeep
          have hlen : (⟨(bodyB p).toArray⟩ : ByteArray).size ≤ 100000 := by
            show (bodyB p).toArray.size ≤ _
            have := hp.out.len
            simp; omega
          have hH := hide (Draw_Hash ⟨(bodyB p).toArray⟩ hlen)
          have hhl := hashN_lt (bodyB p)
          obtain ⟨hv2, hhv⟩ : ∃ hv2, hashN (bodyB p) = hv2 := ⟨_, rfl⟩
          have hhv2 : hashN (⟨(bodyB p).toArray⟩ : ByteArray).data.toList = hv2 := by simpa using hhv
          rw [hhv2] at hH
          rw [hhv] at hhl
          obtain ⟨sc, hsc⟩ : ∃ sc : ByteArray, ⟨(beB hv2 8).toArray⟩ = sc := ⟨_, rfl⟩
          have lc : sc.size ≤ 8 := by rw [← hsc, be_size]; omega
          have nC := hide (fun w => Num8_val hv2 sc hsc hhl w)
          obtain ⟨body, hbody⟩ : ∃ body : ByteArray, ⟨(bodyB p).toArray⟩ = body := ⟨_, rfl⟩
          have hout : Hide (body ++ sc = ⟨(printB p).toArray⟩) := ⟨by rw [← hbody, ← hsc, printB, hhv]; apply ByteArray.ext; simp⟩
          have hS : ∀ w', Lib.IsBuilderF 67 5 w.heap.size bb (Lib.byteCells (bodyB p)) w' → w.heap.size ≤ w'.heap.size → Calls Tryd.prog 28 #[.pointer (some ⟨bb, 0, none⟩)] w' fun r w'' => r = .returned (.string body) ∧ (Lib.IsBuilderF 67 5 w.heap.size bb (Lib.byteCells (bodyB p)) w'' ∧ Below w.heap.size w' w'') := fun w' h1 h2 => by
            rw [← hbody]; exact StrF h1 h2
          have hS := hide hS
          rw [hbody] at hH hlen
          have hH := hide hH.out
          have hout2 := hide hout.out
          clear hn htk hhv hhv2 hsc hbody
          go_wp2_with (first
            | (go_at_call 28; (with_reducible refine (hS.out wr hB.out hK.out.size).mono ?_); rintro r w5 ⟨rfl, h5, h6⟩; have h5 := hide h5; have k5 := hide (hK.out.below h6))
            | (go_at_call 28; (with_reducible refine (hS.out w5 h5.out k5.out.size).mono ?_); rintro r w6 ⟨rfl, h7, h8⟩; have k6 := hide (k5.out.below h8))
            | (go_at_call 29; (with_reducible refine (hH.out _).mono ?_); rintro r w7 ⟨rfl, h9⟩; have k7 := hide (k6.out.trans h9))
            | (go_at_call 27; (with_reducible refine (nC.out _).mono ?_); rintro r w8 ⟨rfl, h9⟩; have k8 := hide (k7.out.trans h9)))
          go_ret2
          exact ⟨by rw [← hout.out]; rfl, k8.out⟩
end Go.Proofs.YtggeppmiifkikaaDoor
