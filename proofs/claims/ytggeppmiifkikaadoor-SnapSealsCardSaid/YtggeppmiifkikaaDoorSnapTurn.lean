/- Bytes of a text, one of them turned, as a text again. -/
import Derived.Test.YtggeppmiifkikaaDoorSnapFew
import Derived.Laws.Bits64
namespace Go.Proofs.YtggeppmiifkikaaDoor
open Go Go.RowKit Go.Shelf

theorem Holds.one {w w' : World} {b : Nat} {o : Obj} (k : Keep w w') (hb : w.heap.size ≤ b) (ho : w'.heap[b]? = some o) : Holds w w' [pts b o] :=
  ⟨k.os, k.output, k.tape, ⟨k.size, fun i hi => k.lt hi⟩, fun i => if i = b then some o else none, ⟨_, fun _ => none, fun _ => .inr rfl, by funext i; simp only [Frag.add]; split <;> simp_all, fun _ => rfl, trivial⟩, fun i p hi => by
    by_cases h : i = b
    · subst h
      simp only [if_pos] at hi
      cases hi
      exact ⟨hb, ho⟩
    · simp [h] at hi⟩
theorem Holds.bytes {g w : World} {L : List SProp} (h : Holds g w L) (e : TypeId) (s : ByteArray) :
    Holds g (Lib.bytesWorld w e s) (pts w.heap.size (.cells (Lib.bytesCells w e s) e ((Lib.bytesCells w e s).size, (Lib.bytesCells w e s).size + 1)) :: L) :=
  h.join (M := [_]) (Holds.one (keepBytes w e s) (Nat.le_refl _) (Lib.bytesWorld_at_new w e s))
theorem bits_xor_u8 (c t : Nat) (hc : c < 256) (ht : t < 256) : bits .xor .u8 (c : Int) (t : Int) = ((c ^^^ t : Nat) : Int) := by
  have hx : c ^^^ t < 256 := Nat.xor_lt_two_pow (n := 8) hc ht
  have h1 : (BitVec.ofInt 8 (c : Int)).toNat = c := by
    rw [BitVec.ofInt_natCast, BitVec.toNat_ofNat]; exact Nat.mod_eq_of_lt (by omega)
  have h2 : (BitVec.ofInt 8 (t : Int)).toNat = t := by
    rw [BitVec.ofInt_natCast, BitVec.toNat_ofNat]; exact Nat.mod_eq_of_lt (by omega)
  show IntKind.u8.wrap ((BitVec.ofInt 8 (c : Int) ^^^ BitVec.ofInt 8 (t : Int)).toNat : Int) = _
  rw [BitVec.toNat_xor, h1, h2, show ∀ n : Int, IntKind.u8.wrap n = n % 256 from fun n => by simp [IntKind.wrap, IntKind.bits, IntKind.signed]]
  omega
theorem turned_text {P : Program} {w : World} {src e dst : TypeId} (hs : P.underlying src = some (.slice e)) (he : P.underlying e = some (.int .u8)) (hd : P.underlying dst = some .string) (b cap : Nat) (xs : List UInt8) (n : Nat) (hn : xs.length = n)
    (h : ∀ j (c : UInt8), xs[j]? = some c → w.cell? ⟨b, j, none⟩ = some (.int .u8 c.toNat)) : (convert src dst (.slice (some ⟨b, 0, none⟩) n cap)).run P w = .ok (.string ⟨xs.toArray⟩) w := by
  have := run_convert_bytes_arg (P := P) w src e hs he b 0 n cap (xs.map fun c : UInt8 => (c.toNat : Int)) (by simpa using hn) (fun i hi => by
    have hi' : i < xs.length := by omega
    have := h i xs[i] (List.getElem?_eq_getElem hi')
    rw [Nat.zero_add, this]
    simp [List.getD, hi']) dst hd
  rw [this]
  congr 2
  apply ByteArray.ext
  simp [strOfNums, Function.comp_def]
end Go.Proofs.YtggeppmiifkikaaDoor
