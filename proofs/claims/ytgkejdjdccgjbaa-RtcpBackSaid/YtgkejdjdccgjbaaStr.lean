/- string(b) of a slice of bytes in memory. Plain law on worlds. -/
import Derived.Test.YtgkejdjdccgjbaaCut
import Derived.Laws.BytesArg
import Derived.WideShapes
namespace Go.Proofs.Ytgkejdjdccgjbaa
open Go Go.RowKit
set_option maxHeartbeats 400000
theorem str_of {w : World} {lo : Nat} {r : Rw} (h : RowIn w lo .u8 r) : (convert 25 9 (encR r)).run Try.prog w = .ok (.string (strOfNums r.xs)) w := by
  obtain ⟨A, c, xs⟩ := r
  unfold encR
  dsimp only
  rcases xs with _ | ⟨x, xs⟩
  · rcases A with _ | a
    · exact run_convert_bytes_nil w _ 5 Try.underlying25 Try.underlying5 _ _ _ Try.underlying9
    · have hl : (loadCells a 0).run Try.prog w = .ok (([] : List Int).map (Value.int .u8)).toArray w := by
        have := run_loadCells_list (P := Try.prog) w a [] (fun j v hj => by simp at hj)
        simpa using this
      have e : strOfNums [] = ByteArray.empty := rfl
      rw [run_convert_bytes_string w _ _ 5 _ _ _ Try.underlying25 Try.underlying5 Try.underlying9, List.length_nil, run_bytesToString w a 0 c [] hl, e]
      rfl
  · obtain ⟨b, off, e, _, _, hc⟩ := h.at (by simp)
    dsimp only at e hc
    subst e
    refine run_convert_bytes_arg w _ 5 Try.underlying25 Try.underlying5 b off _ c (x :: xs) rfl (fun i hi => ?_) _ Try.underlying9
    exact hc i _ (by rw [List.getD_eq_getElem?_getD, List.getElem?_eq_getElem hi]; rfl)
/-- a slice that came in as nil is of nothing -/
theorem okWide_none {P : Program} {w : World} {r : Reach} {base : Nat} {t e : TypeId} {a : Option Addr} {len cap : Nat} (ht : P.underlying t = some (.slice e)) (h : Value.okWide P w r base t (.slice a len cap)) : a = none → len = 0 ∧ cap = 0 := by
  rintro rfl
  simp only [Value.okWide, ht, Cell.okWide] at h
  match len, cap, h with
  | 0, 0, _ => exact ⟨rfl, rfl⟩
  | n + 1, c, h => simp [Cell.ok, ht] at h
  | 0, c + 1, h => simp [Cell.ok, ht] at h
end Go.Proofs.Ytgkejdjdccgjbaa
