/- A small separation logic over the model's heap: 'Holds g w L': the assertions of the list L hold of disjoint parts of w's heap, and the streams of w are g's. No program is named here. -/
import Derived.WalkKit
import Derived.Deep.Draws
namespace Go.Proofs.YtbbdimlpofjlfaaGreatDoor
open Go Go.RowKit

/-- A fact that the walk does not look into. -/
structure Hide (p : Prop) : Prop where
  out : p
theorem hide {p : Prop} (h : p) : Hide p := ⟨h⟩
theorem bytes_inj {a b : ByteArray} (h : a.toList = b.toList) : a = b := by
  rw [ByteArray.toList_eq, ByteArray.toList_eq] at h
  exact ByteArray.ext (Array.toList_inj.1 h)
/-- A part of a heap. -/
abbrev Frag := Nat → Option Obj
abbrev SProp := Frag → Prop
def Frag.dis (a b : Frag) : Prop := ∀ i, a i = none ∨ b i = none
def Frag.add (a b : Frag) : Frag := fun i => match a i with | some o => some o | none => b i
def Sat : List SProp → Frag → Prop
  | [], _ => True
  | P :: l, h => ∃ a b, Frag.dis a b ∧ h = Frag.add a b ∧ P a ∧ Sat l b
/-- Block b is o. -/
def pts (b : Nat) (o : Obj) : SProp := fun h => ∀ i, h i = if i = b then some o else none
/-- Nothing; a plain fact. -/
def pure' (p : Prop) : SProp := fun h => p ∧ ∀ i, h i = none
/-- The streams, and all that was in g's heap, are as they were; of the blocks that were made since, L holds. -/
def Holds0 (g w : World) (L : List SProp) : Prop :=
  w.os = g.os ∧ w.output = g.output ∧ w.tape = g.tape ∧ (g.heap.size ≤ w.heap.size ∧ ∀ i, i < g.heap.size → w.heap[i]? = g.heap[i]?) ∧ ∃ h, Sat L h ∧ ∀ i o, h i = some o → g.heap.size ≤ i ∧ w.heap[i]? = some o

structure Holds (g w : World) (L : List SProp) : Prop where
  out : Holds0 g w L

theorem Frag.dis_comm {a b : Frag} (h : Frag.dis a b) : Frag.dis b a := fun i => (h i).symm
theorem Frag.add_comm {a b : Frag} (h : Frag.dis a b) : Frag.add a b = Frag.add b a := by
  funext i
  rcases h i with e | e <;> simp only [Frag.add, e]
  · cases b i <;> rfl
  · cases a i <;> rfl
theorem Frag.add_assoc (a b c : Frag) : Frag.add (Frag.add a b) c = Frag.add a (Frag.add b c) := by
  funext i
  simp only [Frag.add]
  cases a i <;> rfl
theorem Frag.dis_add {a b c : Frag} : Frag.dis a (Frag.add b c) ↔ Frag.dis a b ∧ Frag.dis a c := by
  constructor
  · intro h
    refine ⟨fun i => ?_, fun i => ?_⟩ <;> rcases h i with e | e
    · exact .inl e
    · simp only [Frag.add] at e; cases hb : b i <;> simp_all
    · exact .inl e
    · simp only [Frag.add] at e; cases hb : b i <;> simp_all
  · rintro ⟨h1, h2⟩ i
    rcases h1 i with e | e
    · exact .inl e
    · rcases h2 i with f | f
      · exact .inl f
      · exact .inr (by simp [Frag.add, e, f])
theorem Frag.add_some {a b : Frag} {i : Nat} {o : Obj} (h : a i = some o) : Frag.add a b i = some o := by simp [Frag.add, h]
theorem Frag.add_none {a b : Frag} {i : Nat} (h : a i = none) : Frag.add a b i = b i := by simp [Frag.add, h]

theorem Sat.swap {P Q : SProp} {l : List SProp} {h : Frag} (s : Sat (P :: Q :: l) h) : Sat (Q :: P :: l) h := by
  obtain ⟨a, r, d, e, hp, b, c, d2, e2, hq, hl⟩ := s
  subst e2
  obtain ⟨dab, dac⟩ := Frag.dis_add.1 d
  refine ⟨b, Frag.add a c, Frag.dis_add.2 ⟨Frag.dis_comm dab, d2⟩, ?_, hq, a, c, dac, rfl, hp, hl⟩
  rw [e, ← Frag.add_assoc, Frag.add_comm dab, Frag.add_assoc]
theorem Sat.cons_mono {P Q : SProp} {l m : List SProp} {h : Frag} (s : Sat (P :: l) h) (k : ∀ a, P a → Q a) (n : ∀ b, Sat l b → Sat m b) : Sat (Q :: m) h := by
  obtain ⟨a, b, d, e, hp, hl⟩ := s
  exact ⟨a, b, d, e, k _ hp, n _ hl⟩
theorem Sat.perm {l m : List SProp} (p : l.Perm m) : ∀ {h : Frag}, Sat l h → Sat m h := by
  induction p with
  | nil => exact id
  | cons x _ ih => exact fun s => s.cons_mono (fun _ h => h) (fun _ h => ih h)
  | swap x y l => exact fun s => s.swap
  | trans _ _ ih1 ih2 => exact fun s => ih2 (ih1 s)
theorem Sat.app {l m : List SProp} : ∀ {h : Frag}, Sat (l ++ m) h ↔ ∃ a b, Frag.dis a b ∧ h = Frag.add a b ∧ Sat l a ∧ Sat m b := by
  induction l with
  | nil =>
    intro h
    constructor
    · intro s
      exact ⟨fun _ => none, h, fun _ => .inl rfl, by funext i; rfl, trivial, s⟩
    · rintro ⟨a, b, d, e, -, s⟩
      -- affine: what nobody names is dropped, so a larger part serves as well
      revert s e d
      revert h b
      intro h b d e s
      subst e
      rw [Frag.add_comm d]
      clear d
      show Sat m (Frag.add b a)
      revert a b
      induction m with
      | nil => intros; trivial
      | cons P m ih =>
        intro a b s
        obtain ⟨x, y, d, e, hp, hs⟩ := s
        subst e
        refine ⟨x, Frag.add y (fun i => match x i with | some _ => none | none => a i), ?_, ?_, hp, ih _ _ hs⟩
        · refine Frag.dis_add.2 ⟨d, fun i => ?_⟩
          cases hx : x i
          · exact .inl rfl
          · exact .inr (by simp [hx])
        · rw [Frag.add_assoc]
          funext i
          simp only [Frag.add]
          cases x i <;> rfl
  | cons P l ih =>
    intro h
    constructor
    · rintro ⟨a, b, d, e, hp, s⟩
      obtain ⟨c, f, d2, e2, s1, s2⟩ := ih.1 s
      subst e2
      obtain ⟨dac, daf⟩ := Frag.dis_add.1 d
      refine ⟨Frag.add a c, f, Frag.dis_comm (Frag.dis_add.2 ⟨Frag.dis_comm daf, Frag.dis_comm d2⟩), ?_, ⟨a, c, dac, rfl, hp, s1⟩, s2⟩
      rw [e, Frag.add_assoc]
    · rintro ⟨x, b, d, e, ⟨a, c, d2, e2, hp, s1⟩, s2⟩
      subst e2
      obtain ⟨dba, dbc⟩ := Frag.dis_add.1 (Frag.dis_comm d)
      refine ⟨a, Frag.add c b, Frag.dis_add.2 ⟨d2, Frag.dis_comm dba⟩, by rw [e, Frag.add_assoc], hp, ih.2 ⟨c, b, Frag.dis_comm dbc, rfl, s1, s2⟩⟩
/-- Affine: more of a heap serves as well. -/
theorem Sat.more {l : List SProp} {a b : Frag} (d : Frag.dis a b) (s : Sat l a) : Sat l (Frag.add a b) := by
  have h : Sat ([] ++ l) (Frag.add a b) := Sat.app.2 ⟨b, a, Frag.dis_comm d, Frag.add_comm d, trivial, s⟩
  exact h

variable {g w : World} {A B C D E P1 P2 P3 P4 P5 P6 P7 P8 P9 : SProp} {F L M : List SProp}

theorem Holds.perm (h : Holds g w L) (p : L.Perm M) : Holds g w M :=
  let ⟨a, b, c, z, x, s, e⟩ := h; ⟨a, b, c, z, x, s.perm p, e⟩
theorem Holds.imp (h : Holds g w L) (k : ∀ x, Sat L x → Sat M x) : Holds g w M :=
  let ⟨a, b, c, z, x, s, e⟩ := h; ⟨a, b, c, z, x, k _ s, e⟩
theorem Holds.head (h : Holds g w (A :: F)) (k : ∀ x, A x → B x) : Holds g w (B :: F) := h.imp fun _ s => s.cons_mono k (fun _ h => h)
theorem Holds.drop (h : Holds g w (A :: F)) : Holds g w F := by
  obtain ⟨a, b, c, z, x, ⟨y, v, d, e, _, s⟩, f⟩ := h
  refine ⟨a, b, c, z, v, s, fun i o hi => f i o ?_⟩
  rw [e, Frag.add_comm d, Frag.add_some hi]
theorem Holds.p0 (h : Holds g w L) : Holds g w L := h
theorem Holds.p1 (h : Holds g w (A :: P1 :: F)) : Holds g w (P1 :: A :: F) := h.imp fun _ s => s.swap
theorem Holds.tail (h : Holds g w (A :: L)) (k : ∀ x, Sat L x → Sat M x) : Holds g w (A :: M) := h.imp fun _ s => s.cons_mono (fun _ h => h) k
theorem Sat.p1 {x : Frag} (h : Sat (A :: P1 :: F) x) : Sat (P1 :: A :: F) x := h.swap
theorem Sat.p2 {x : Frag} (h : Sat (A :: B :: P1 :: F) x) : Sat (P1 :: A :: B :: F) x := (h.cons_mono (fun _ h => h) (fun _ h => h.swap)).swap
theorem Sat.p3 {x : Frag} (h : Sat (A :: B :: C :: P1 :: F) x) : Sat (P1 :: A :: B :: C :: F) x := (h.cons_mono (fun _ h => h) (fun _ h => h.p2)).swap
theorem Sat.p4 {x : Frag} (h : Sat (A :: B :: C :: D :: P1 :: F) x) : Sat (P1 :: A :: B :: C :: D :: F) x := (h.cons_mono (fun _ h => h) (fun _ h => h.p3)).swap
theorem Sat.p5 {x : Frag} (h : Sat (A :: B :: C :: D :: E :: P1 :: F) x) : Sat (P1 :: A :: B :: C :: D :: E :: F) x := (h.cons_mono (fun _ h => h) (fun _ h => h.p4)).swap
theorem Sat.p6 {x : Frag} (h : Sat (A :: B :: C :: D :: E :: P2 :: P1 :: F) x) : Sat (P1 :: A :: B :: C :: D :: E :: P2 :: F) x := (h.cons_mono (fun _ h => h) (fun _ h => h.p5)).swap
theorem Sat.p7 {x : Frag} (h : Sat (A :: B :: C :: D :: E :: P2 :: P3 :: P1 :: F) x) : Sat (P1 :: A :: B :: C :: D :: E :: P2 :: P3 :: F) x := (h.cons_mono (fun _ h => h) (fun _ h => h.p6)).swap
theorem Sat.p8 {x : Frag} (h : Sat (A :: B :: C :: D :: E :: P2 :: P3 :: P4 :: P1 :: F) x) : Sat (P1 :: A :: B :: C :: D :: E :: P2 :: P3 :: P4 :: F) x := (h.cons_mono (fun _ h => h) (fun _ h => h.p7)).swap
theorem Sat.p9 {x : Frag} (h : Sat (A :: B :: C :: D :: E :: P2 :: P3 :: P4 :: P5 :: P1 :: F) x) : Sat (P1 :: A :: B :: C :: D :: E :: P2 :: P3 :: P4 :: P5 :: F) x := (h.cons_mono (fun _ h => h) (fun _ h => h.p8)).swap
theorem Sat.tl {x : Frag} (h : Sat (A :: F) x) : Sat F x := by
  obtain ⟨a, b, d, e, _, s⟩ := h
  rw [e, Frag.add_comm d]
  exact s.more (Frag.dis_comm d)
theorem Holds.p2 (h : Holds g w (A :: B :: P1 :: F)) : Holds g w (P1 :: A :: B :: F) := h.imp fun _ s => s.p2
theorem Holds.p3 (h : Holds g w (A :: B :: C :: P1 :: F)) : Holds g w (P1 :: A :: B :: C :: F) := h.imp fun _ s => s.p3
theorem Holds.p4 (h : Holds g w (A :: B :: C :: D :: P1 :: F)) : Holds g w (P1 :: A :: B :: C :: D :: F) := h.imp fun _ s => s.p4
theorem Holds.p5 (h : Holds g w (A :: B :: C :: D :: E :: P1 :: F)) : Holds g w (P1 :: A :: B :: C :: D :: E :: F) := h.imp fun _ s => s.p5
theorem Holds.p6 (h : Holds g w (A :: B :: C :: D :: E :: P2 :: P1 :: F)) : Holds g w (P1 :: A :: B :: C :: D :: E :: P2 :: F) := h.imp fun _ s => s.p6
theorem Holds.p7 (h : Holds g w (A :: B :: C :: D :: E :: P2 :: P3 :: P1 :: F)) : Holds g w (P1 :: A :: B :: C :: D :: E :: P2 :: P3 :: F) := h.imp fun _ s => s.p7
theorem Holds.p8 (h : Holds g w (A :: B :: C :: D :: E :: P2 :: P3 :: P4 :: P1 :: F)) : Holds g w (P1 :: A :: B :: C :: D :: E :: P2 :: P3 :: P4 :: F) := h.imp fun _ s => s.p8
theorem Holds.p9 (h : Holds g w (A :: B :: C :: D :: E :: P2 :: P3 :: P4 :: P5 :: P1 :: F)) : Holds g w (P1 :: A :: B :: C :: D :: E :: P2 :: P3 :: P4 :: P5 :: F) := h.imp fun _ s => s.p9

/-- A conjunction of assertions as ONE assertion, and back. -/
def All (L : List SProp) : SProp := Sat L
theorem Holds.unall (h : Holds g w (All L :: F)) : Holds g w (L ++ F) := h.imp fun _ ⟨a, b, d, e, s, t⟩ => Sat.app.2 ⟨a, b, d, e, s, t⟩
theorem Holds.all (h : Holds g w (L ++ F)) : Holds g w (All L :: F) := h.imp fun _ s => let ⟨a, b, d, e, s, t⟩ := Sat.app.1 s; ⟨a, b, d, e, s, t⟩
theorem Holds.unex {α : Type} {Q : α → SProp} (h : Holds g w ((fun x => ∃ i, Q i x) :: F)) : ∃ i, Holds g w (Q i :: F) := by
  obtain ⟨a, b, c, z, x, ⟨y, v, d, e, ⟨i, q⟩, s⟩, f⟩ := h
  exact ⟨i, a, b, c, z, x, ⟨y, v, d, e, q, s⟩, f⟩
theorem Holds.ex {α : Type} {Q : α → SProp} (i : α) (h : Holds g w (Q i :: F)) : Holds g w ((fun x => ∃ i, Q i x) :: F) := h.head fun _ h => ⟨i, h⟩
theorem Holds.unfact {p : Prop} {Q : SProp} (h : Holds g w ((fun x => p ∧ Q x) :: F)) : p ∧ Holds g w (Q :: F) := by
  obtain ⟨a, b, c, z, x, ⟨y, v, d, e, ⟨hp, q⟩, s⟩, f⟩ := h
  exact ⟨hp, a, b, c, z, x, ⟨y, v, d, e, q, s⟩, f⟩
theorem Holds.fact {p : Prop} {Q : SProp} (hp : p) (h : Holds g w (Q :: F)) : Holds g w ((fun x => p ∧ Q x) :: F) := h.head fun _ h => ⟨hp, h⟩

/-! ### What an assertion gives -/
theorem Holds.block {b : Nat} {o : Obj} (h : Holds g w (pts b o :: F)) : w.heap[b]? = some o := by
  obtain ⟨_, _, _, _, x, ⟨y, v, _, e, hp, _⟩, f⟩ := h
  exact (f b o (by rw [e]; exact Frag.add_some (by rw [hp]; simp))).2
theorem Holds.new {b : Nat} {o : Obj} (h : Holds g w (pts b o :: F)) : g.heap.size ≤ b := by
  obtain ⟨_, _, _, _, x, ⟨y, v, _, e, hp, _⟩, f⟩ := h
  exact (f b o (by rw [e]; exact Frag.add_some (by rw [hp]; simp))).1
theorem Holds.lt {b : Nat} {o : Obj} (h : Holds g w (pts b o :: F)) : b < w.heap.size := by
  have := h.block
  rcases Nat.lt_or_ge b w.heap.size with h | h
  · exact h
  · simp [Array.getElem?_eq_none h] at this
theorem Holds.ne {b c : Nat} {o p : Obj} (h : Holds g w (pts b o :: pts c p :: F)) : b ≠ c := by
  rintro rfl
  obtain ⟨_, _, _, _, x, ⟨y, v, d, e, hp, y2, v2, d2, e2, hp2, _⟩, f⟩ := h
  rcases d b with h1 | h1
  · rw [hp] at h1; simp at h1
  · rw [e2, Frag.add_some (o := p) (by rw [hp2]; simp)] at h1; simp at h1
theorem Holds.cell {b : Nat} {cs : Array Value} {t : TypeId} {fz : Nat × Nat} {off : Nat} {v : Value} (h : Holds g w (pts b (.cells cs t fz) :: F)) (hv : cs[off]? = some v) :
    w.cell? ⟨b, off, none⟩ = some v := by
  simp [World.cell?, h.block, hv]
theorem Holds.free {b : Nat} {cs : Array Value} {t : TypeId} {off : Nat} (h : Holds g w (pts b (.cells cs t (0, 0)) :: F)) : w.frozen? ⟨b, off, none⟩ = false := by
  simp [World.frozen?, h.block]
theorem Holds.old (h : Holds g w L) {i : Nat} (hi : i < g.heap.size) : w.heap[i]? = g.heap[i]? := h.out.2.2.2.1.2 i hi
theorem Holds.oldCell (h : Holds g w L) {a : Addr} {v : Value} (hv : g.cell? a = some v) : w.cell? a = some v := by
  have hl := World.block_lt_of_cell? g a hv
  rw [← hv]
  exact World.cell?_of_block (w := g) (h.old hl)
theorem Holds.size (h : Holds g w L) : g.heap.size ≤ w.heap.size := h.out.2.2.2.1.1
theorem Holds.below (h : Holds g w L) : Below g.heap.size g w := ⟨h.out.1, h.out.2.2.1, h.out.2.1, h.size, fun _ hk => h.old hk⟩
theorem Holds.start (w : World) : Holds w w [] :=
  ⟨rfl, rfl, rfl, ⟨Nat.le_refl _, fun _ _ => rfl⟩, fun _ => none, trivial, fun _ _ h => by cases h⟩
theorem Holds.nil (h : Holds g w L) : Holds g w [] := let ⟨a, b, c, z, x, _, e⟩ := h; ⟨a, b, c, z, x, trivial, e⟩

/-! ### How the world goes on -/
/-- w' is w and new blocks beside, the streams as they were. -/
structure Keep (w w' : World) : Prop where
  os : w'.os = w.os
  output : w'.output = w.output
  tape : w'.tape = w.tape
  size : w.heap.size ≤ w'.heap.size
  block : ∀ (i : Nat) (o : Obj), w.heap[i]? = some o → w'.heap[i]? = some o
theorem Keep.refl (w : World) : Keep w w := ⟨rfl, rfl, rfl, Nat.le_refl _, fun _ _ h => h⟩
theorem Keep.trans {a b c : World} (h : Keep a b) (k : Keep b c) : Keep a c := ⟨k.os.trans h.os, k.output.trans h.output, k.tape.trans h.tape, Nat.le_trans h.size k.size, fun i o e => k.block i o (h.block i o e)⟩
theorem Keep.drew {w w' : World} (h : Keep w w') : Keep w w'.drew := h.trans ⟨rfl, rfl, rfl, Nat.le_refl _, fun _ _ h => h⟩
theorem Keep.drewN {w w' : World} {n : Nat} (h : Keep w w') : Keep w (w'.drewN n) := h.trans ⟨rfl, rfl, rfl, Nat.le_refl _, fun _ _ h => h⟩
theorem Keep.alloc {w w' : World} {o : Obj} (h : Keep w w') : Keep w (w'.alloc o) := by
  refine h.trans ⟨rfl, rfl, rfl, by simp, fun i p hp => ?_⟩
  show (w'.heap.push o)[i]? = some p
  rw [Array.getElem?_push, if_neg ?_]
  · exact hp
  · rintro rfl; simp at hp
theorem Keep.lt {w w' : World} (h : Keep w w') {i : Nat} (hi : i < w.heap.size) : w'.heap[i]? = w.heap[i]? := by
  have e : w.heap[i]? = some w.heap[i] := Array.getElem?_eq_getElem hi
  rw [e]; exact h.block i _ e
theorem Keep.cell {w w' : World} (h : Keep w w') {a : Addr} {v : Value} (hv : w.cell? a = some v) : w'.cell? a = some v := by
  have hl := World.block_lt_of_cell? w a hv
  rw [← hv]
  exact World.cell?_of_block (w := w) (h.lt hl)
theorem Holds.keep {w' : World} (h : Holds g w L) (k : Keep w w') : Holds g w' L :=
  let ⟨a, b, c, z, x, s, e⟩ := h
  ⟨k.os.trans a, k.output.trans b, k.tape.trans c, ⟨Nat.le_trans z.1 k.size, fun i hi => (k.lt (Nat.lt_of_lt_of_le hi z.1)).trans (z.2 i hi)⟩, x, s, fun i o q => ⟨(e i o q).1, k.block i o (e i o q).2⟩⟩
theorem Holds.toKeep (h : Holds g w L) : Keep g w :=
  ⟨h.out.1, h.out.2.1, h.out.2.2.1, h.size, fun i o e => by
    have hl : i < g.heap.size := by
      rcases Nat.lt_or_ge i g.heap.size with h | h
      · exact h
      · simp [Array.getElem?_eq_none h] at e
    rw [h.old hl]; exact e⟩
theorem Holds.drew (h : Holds g w L) : Holds g w.drew L := h.keep (Keep.refl w).drew
theorem Holds.drewN {n : Nat} (h : Holds g w L) : Holds g (w.drewN n) L := h.keep (Keep.refl w).drewN
theorem Holds.alloc {o : Obj} (h : Holds g w L) : Holds g (w.alloc o) (pts w.heap.size o :: L) := by
  have k := h.keep (Keep.refl w).alloc (w' := w.alloc o)
  obtain ⟨a, b, c, z, x, s, e⟩ := h
  have hfree : x w.heap.size = none := by
    cases hx : x w.heap.size with
    | none => rfl
    | some o' => have := (e _ _ hx).2; simp at this
  refine ⟨a, b, c, k.out.2.2.2.1, Frag.add (fun i => if i = w.heap.size then some o else none) x, ⟨_, x, fun i => ?_, rfl, fun _ => rfl, s⟩, fun i p hp => ?_⟩
  · by_cases hi : i = w.heap.size
    · subst hi; exact .inr hfree
    · exact .inl (if_neg hi)
  · by_cases hi : i = w.heap.size
    · subst hi
      rw [Frag.add_some (o := o) (by simp)] at hp
      refine ⟨z.1, ?_⟩
      show (w.heap.push o)[w.heap.size]? = some p
      simpa using hp
    · rw [Frag.add_none (by simp [hi])] at hp
      have := e _ _ hp
      exact ⟨this.1, ((Keep.refl w).alloc (o := o)).block _ _ this.2⟩
theorem Holds.alloc' {o : Obj} (h : Holds g w L) : Holds g (w.alloc o) L := h.alloc.drop
/-- The block at the head is turned. -/
theorem Holds.turn {w' : World} {b : Nat} {o o' : Obj} (h : Holds g w (pts b o :: F)) (ho : w'.os = w.os) (hp : w'.output = w.output) (ht : w'.tape = w.tape) (hs : w.heap.size ≤ w'.heap.size)
    (hb : w'.heap[b]? = some o') (hh : ∀ (i : Nat) (p : Obj), i ≠ b → w.heap[i]? = some p → w'.heap[i]? = some p) : Holds g w' (pts b o' :: F) := by
  have hn := h.new
  obtain ⟨a, c, k, z, x, ⟨y, v, d, e, hy, s⟩, f⟩ := h
  have hvb : v b = none := by
    rcases d b with h1 | h1
    · rw [hy] at h1; simp at h1
    · exact h1
  refine ⟨ho.trans a, hp.trans c, ht.trans k, ⟨Nat.le_trans z.1 hs, fun i hi => ?_⟩, Frag.add (fun i => if i = b then some o' else none) v, ⟨_, v, fun i => ?_, rfl, fun _ => rfl, s⟩, fun i p hi => ?_⟩
  · have q : g.heap[i]? = some g.heap[i] := Array.getElem?_eq_getElem hi
    rw [q]
    exact hh i _ (by omega) ((z.2 i hi).trans q)
  · by_cases hi : i = b
    · subst hi; exact .inr hvb
    · exact .inl (if_neg hi)
  · by_cases hb' : i = b
    · subst hb'
      rw [Frag.add_some (o := o') (by simp)] at hi
      exact ⟨hn, by rw [hb, hi]⟩
    · rw [Frag.add_none (by simp [hb'])] at hi
      have := f i p (by rw [e, Frag.add_none (by rw [hy]; simp [hb']), hi])
      exact ⟨this.1, hh i p hb' this.2⟩
theorem Holds.setCell {b off : Nat} {v : Value} {cs : Array Value} {t : TypeId} {fz : Nat × Nat} (h : Holds g w (pts b (.cells cs t fz) :: F)) :
    Holds g (w.setCell ⟨b, off, none⟩ v) (pts b (.cells (cs.setIfInBounds off v) t fz) :: F) := by
  refine h.turn rfl rfl rfl (by simp) ?_ ?_
  · simp only [World.setCell, Array.getElem?_modify, if_true, h.block]; rfl
  · intro i p hi hp
    simp only [World.setCell, Array.getElem?_modify]
    rw [if_neg (by omega)]
    exact hp
/-- An object that is no row of cells is turned. -/
theorem Holds.setObj {b : Nat} {o o' : Obj} (h : Holds g w (pts b o :: F)) : Holds g { w with heap := w.heap.setIfInBounds b o' } (pts b o' :: F) := by
  refine h.turn rfl rfl rfl (by simp) ?_ ?_
  · simp [h.lt]
  · intro i p hi hp
    simp only [Array.getElem?_setIfInBounds]
    rw [if_neg (by omega)]
    exact hp
end Go.Proofs.YtbbdimlpofjlfaaGreatDoor
