/- More of the separation logic: what a callee made beside what was there. No program is named here. -/
import Derived.Test.YtggeppmiifkikaaDoorRow
namespace Go.Proofs.YtggeppmiifkikaaDoor
open Go Go.RowKit

section
variable {g w w' : World} {A : SProp} {F L M : List SProp}
theorem Holds.only (h : Holds g w (A :: F)) : Holds g w [A] := h.tail fun _ _ => trivial
/-- What a callee made of its own, beside what was there when it was called. -/
theorem Holds.join (h : Holds g w L) (k : Holds w w' M) : Holds g w' (M ++ L) := by
  have kk := k.toKeep
  have hz := h.size
  obtain ⟨_, _, _, _, x, s, e⟩ := h
  obtain ⟨_, _, _, _, y, t, f⟩ := k
  rename_i a b c z _ _ _ _
  have hd : Frag.dis y x := fun i => by
    cases hy : y i with
    | none => exact .inl rfl
    | some p =>
      cases hx : x i with
      | none => exact .inr rfl
      | some o =>
        have h1 := (f i p hy).1
        have h2 := (e i o hx).2
        rw [Array.getElem?_eq_none h1] at h2
        cases h2
  refine ⟨kk.os.trans a, kk.output.trans b, kk.tape.trans c, ⟨Nat.le_trans hz kk.size, fun i hi => (kk.lt (Nat.lt_of_lt_of_le hi hz)).trans (z.2 i hi)⟩, Frag.add y x, Sat.app.2 ⟨y, x, hd, rfl, t, s⟩, fun i o hi => ?_⟩
  cases hy : y i with
  | some p =>
    rw [Frag.add_some hy] at hi
    cases hi
    exact ⟨Nat.le_trans hz (f i _ hy).1, (f i _ hy).2⟩
  | none =>
    rw [Frag.add_none hy] at hi
    exact ⟨(e i o hi).1, kk.block i o (e i o hi).2⟩
end
end Go.Proofs.YtggeppmiifkikaaDoor
