/- clear of the tail of a row that is owned. Plain law, no condition. -/
import Derived.Test.YtembadjfialenaaWords
import Derived.Laws.CopyRow
namespace Go.Proofs.Ytembadjfialenaa
open Go Go.RowKit

/-- clear(s[i:]): the row is then its first i elements. -/
theorem run_clear_tail {P : Program} {w : World} {N g n c i size : Nat} {e t ty : TypeId} {xs zc : List Value} (ht : P.underlying t = some (.slice e)) (hv : ∀ w, (zeroValue e).run P w = .ok (.agg zc.toArray) w) (hz : zc.length = size) (h1 : ∀ v ∈ zc, v.oneCell' = true)
    (h : w.ownsRow N e size (.slice (some ⟨g, 0, none⟩) n c) n xs) (hi : i < n) (k : Nat) :
    ∃ w', (Builtin.clear_ #[t] ty #[.slice (some ⟨g, i * size, none⟩) (n - i) k]).run P w = .ok (.tuple #[]) w' ∧ w'.ownsRow N e size (.slice (some ⟨g, 0, none⟩) i c) i (xs.take (i * size)) ∧ Upd [g] w w' := by
  rcases h.2 with ⟨h', _⟩ | ⟨g', cap', cur, h', hb, hg, hnc, hcm, hcs, htake⟩
  · simp at h'
  simp only [Value.slice.injEq, Option.some.injEq, Addr.mk.injEq, and_true, true_and] at h'
  obtain ⟨rfl, rfl⟩ := h'
  have hm1 : i * size + (n - i) * size = n * size := by rw [← Nat.add_mul]; congr 1; omega
  have hm2 : n * size ≤ c * size := Nat.mul_le_mul_right _ hnc
  have hl : (Builtin.zeroCells (Value.agg zc.toArray).cells (n - i)).toList.length = (n - i) * size := by rw [Array.length_toList, size_zeroCells]; show _ * zc.toArray.size = _; simp [hz]
  have hone : ∀ v ∈ (Builtin.zeroCells (Value.agg zc.toArray).cells (n - i)).toList, v.oneCell' = true := by
    intro v hv'
    simp only [Builtin.zeroCells, Array.toList_map, Array.mem_toList_iff, List.mem_map] at hv'
    obtain ⟨j, hj, rfl⟩ := hv'
    have hj' : j < (n - i) * size := by
      have : (Value.agg zc.toArray).cells.size = size := by show zc.toArray.size = _; simp [hz]
      rw [this] at hj
      simpa using hj
    have h0 : 0 < size := by rcases Nat.eq_zero_or_pos size with e0 | e0; · subst e0; simp at hj'
                             · exact e0
    have hlt : j % size < zc.length := by rw [hz]; exact Nat.mod_lt _ h0
    refine h1 _ ?_
    show zc.toArray[j % zc.toArray.size]! ∈ zc
    have e1 : zc.toArray.size = size := by simp [hz]
    rw [e1]
    have : zc.toArray[j % size]! = zc[j % size] := by simp [hlt]
    rw [this]
    exact List.getElem_mem hlt
  generalize hvs : (Builtin.zeroCells (Value.agg zc.toArray).cells (n - i)).toList = vs at hl hone
  have hst := run_storeCells_at (P := P) g (i * size) e vs 0 cur w hg (by rw [hl]; omega) hone
  simp only [Nat.add_zero] at hst
  obtain ⟨m, hm⟩ : ∃ m, n - i = m + 1 := ⟨n - i - 1, by omega⟩
  refine ⟨w.setRow g (cur.toList.take (i * size) ++ vs ++ cur.toList.drop (i * size + vs.length)).toArray, ?_, ⟨?_, .inr ⟨g, c, _, rfl, hb, setRow_heap w g cur _ e (0, 0) hg, by omega, hcm, ?_, ?_⟩⟩, ⟨rfl, rfl, rfl, by simp [World.setRow], fun b _ hb => setRow_other w g b _ (by simpa using hb)⟩⟩
  · rw [hm] at hvs ⊢
    simp [Builtin.clear_, run_underlying ht, hv, hvs, hst]
  · rw [List.length_take, h.1]; omega
  · have : cur.toList.length = c * size := by simpa using hcs
    simp [List.length_take, hl]; omega
  · have : cur.toList.length = c * size := by simpa using hcs
    rw [← htake, List.take_take, Nat.min_eq_left (by omega)]
    show (cur.toList.take (i * size) ++ vs ++ _).take (i * size) = _
    rw [List.append_assoc, List.take_append_of_le_length (by rw [List.length_take]; omega), List.take_take, Nat.min_self]
end Go.Proofs.Ytembadjfialenaa
