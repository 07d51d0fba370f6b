/- Rows of elements of several cells. Plain laws on lists. -/
import Derived.Test.YtgkejdjdccgjbaaWords
namespace Go.Proofs.Ytgkejdjdccgjbaa
open Go Go.RowKit

section
variable {α : Type} {f : α → List Value} {size : Nat}
theorem flat_length (hf : ∀ z, (f z).length = size) (l : List α) : (l.flatMap f).length = l.length * size := by
  induction l with
  | nil => simp
  | cons a l ih => rw [List.flatMap_cons, List.length_append, ih, hf, List.length_cons, Nat.succ_mul, Nat.add_comm]
theorem flat_get (hf : ∀ z, (f z).length = size) (l : List α) (i j : Nat) (z : α) (h : l[i]? = some z) (hj : j < size) : (l.flatMap f)[i * size + j]? = (f z)[j]? := by
  induction l generalizing i with
  | nil => simp at h
  | cons a l ih =>
    rw [List.flatMap_cons]
    cases i with
    | zero =>
      obtain rfl : a = z := by simpa using h
      rw [Nat.zero_mul, Nat.zero_add, List.getElem?_append_left (by rw [hf]; exact hj)]
    | succ i =>
      rw [List.getElem?_append_right (by rw [hf, Nat.succ_mul]; omega), hf, Nat.succ_mul, show i * size + size + j - size = i * size + j by omega]
      exact ih i (by simpa using h)
theorem flat_set (hf : ∀ z, (f z).length = size) (l : List α) (i j : Nat) (z z' : α) (v : Value) (h : l[i]? = some z) (hj : j < size) (hz : f z' = (f z).set j v) : (l.flatMap f).set (i * size + j) v = (l.set i z').flatMap f := by
  induction l generalizing i with
  | nil => simp at h
  | cons a l ih =>
    cases i with
    | zero =>
      obtain rfl : a = z := by simpa using h
      rw [List.flatMap_cons, List.set_cons_zero, List.flatMap_cons, Nat.zero_mul, Nat.zero_add, hz, List.set_append_left _ _ (by rw [hf]; exact hj)]
    | succ i =>
      rw [List.flatMap_cons, List.set_cons_succ, List.flatMap_cons, List.set_append_right _ _ (by rw [hf, Nat.succ_mul]; omega), hf, Nat.succ_mul, show i * size + size + j - size = i * size + j by omega, ih i (by simpa using h)]
theorem flat_snoc (l : List α) (x : α) : (l ++ [x]).flatMap f = l.flatMap f ++ f x := by simp
theorem flat_take (hf : ∀ z, (f z).length = size) (l : List α) (k : Nat) : (l.flatMap f).take (k * size) = (l.take k).flatMap f := by
  induction l generalizing k with
  | nil => simp
  | cons a l ih =>
    cases k with
    | zero => simp
    | succ k =>
      rw [List.flatMap_cons, List.take_succ_cons, List.flatMap_cons, Nat.succ_mul, Nat.add_comm, List.take_append, hf]
      rw [List.take_of_length_le (by rw [hf]; omega), Nat.add_sub_cancel_left, ih]
end

/-- make of n elements of several cells, each the zero one. -/
theorem run_mkN {P : Program} (t e : TypeId) (zc : List Value) (size bytes : Nat) (ht : P.underlying t = some (.slice e)) (hi : (P.info? e).map (fun i => (i.zero, i.size, i.bytes)) = some (some (.agg zc.toArray), size, bytes))
    (hz : zc.length = size) (h0 : 0 < size) (n : Nat) (hb : bytes * n ≤ 281474976710656) (hn : n ≤ 65536) (w : World) :
    (Instr.makeSlice t (.int .i64 (n : Int)) (.int .i64 (n : Int))).run P w = .ok (.slice (some ⟨w.heap.size, 0, none⟩) n n) (w.alloc (.cells ((List.replicate n ()).flatMap fun _ => zc).toArray e)) := by
  obtain ⟨i0, hi0, hz0, hz1, hz2⟩ := info_parts hi
  have hb' : (i0.bytes : Int) * (n : Int) ≤ 281474976710656 := by
    rw [hz2]
    have : ((bytes * n : Nat) : Int) ≤ 281474976710656 := by omega
    rwa [Int.natCast_mul] at this
  have h := run_make (P := P) w t e i0 _ ht hi0 hz0 .i64 .i64 (n : Int) (n : Int) (by omega) (by omega) hb' (by omega)
  rw [Int.toNat_natCast, hz1] at h
  rw [h]
  congr 3
  unfold madeCells
  have hcs : (Value.agg zc.toArray).cells = zc.toArray := rfl
  rw [hcs]
  apply Array.ext
  · simp [flat_length (f := fun _ : Unit => zc) (fun _ => hz)]
  · intro i h1 h2
    simp only [Array.size_map, Array.size_range] at h1
    have hq : i = i / size * size + i % size := by rw [Nat.mul_comm]; exact (Nat.div_add_mod i size).symm
    have hm : i % size < size := Nat.mod_lt _ h0
    have hd : i / size < n := Nat.div_lt_of_lt_mul (by rw [Nat.mul_comm]; exact h1)
    have hg := flat_get (f := fun _ : Unit => zc) (fun _ => hz) (List.replicate n ()) (i / size) (i % size) () (by simp [hd]) hm
    rw [← hq] at hg
    simp only [Array.getElem_map, Array.getElem_range, List.getElem_toArray]
    rw [List.getElem?_eq_getElem (by simpa using h2), List.getElem?_eq_getElem (by omega)] at hg
    have hsz : zc.toArray.size = size := by simpa using hz
    rw [Option.some.inj hg, hsz, getElem!_pos zc.toArray (i % size) (by rw [hsz]; exact hm)]
    simp
end Go.Proofs.Ytgkejdjdccgjbaa
