/- Slices of bytes as texts. No program is named here. -/
import Derived.Test.YtggeppmiifkikaaDoorRow
import Derived.Laws.BytesArg
namespace Go.Proofs.YtggeppmiifkikaaDoor
open Go Go.RowKit

theorem RowAt.convert {P : Program} {w : World} {v : Value} {xs : List Int} (h : RowAt w v (xs.map (Value.int .u8))) {src e dst : TypeId} (hs : P.underlying src = some (.slice e)) (he : P.underlying e = some (.int .u8)) (hd : P.underlying dst = some .string) :
    (convert src dst v).run P w = .ok (.string (strOfNums xs)) w := by
  rcases h with ⟨rfl, hn⟩ | ⟨b, off, cap, rfl, h1, h2, h3⟩
  · obtain rfl : xs = [] := by cases xs <;> first | rfl | cases hn
    exact run_convert_bytes_nil w src e hs he 0 0 dst hd
  · refine run_convert_bytes_arg w src e hs he b off _ cap xs (by simp) (fun i hi => ?_) dst hd
    have hi' : i < xs.length := by simpa using hi
    refine h3 i _ ?_
    simp [List.getD, List.getElem?_eq_getElem hi']
end Go.Proofs.YtggeppmiifkikaaDoor
