/- A queue in memory: a struct that leads to a ring. Plain laws on worlds. -/
import Derived.Test.YtdcekgdihnlbpaaWords
import Derived.Test.YtdcekgdihnlbpaaRing
namespace Go.Proofs.Ytdcekgdihnlbpaa
open Go Go.RowKit

/-- make of n one-cell elements. -/
theorem run_mk {P : Program} (t e : TypeId) (z : Value) (bytes : Nat) (ht : P.underlying t = some (.slice e)) (hi : (P.info? e).map (fun i => (i.zero, i.size, i.bytes)) = some (some z, 1, bytes))
    (hz : z.cells = #[z]) (n : Nat) (hb : bytes * n ≤ 281474976710656) (hn : n ≤ 65536) (w : World) :
    (Instr.makeSlice t (.int .i64 (n : Int)) (.int .i64 (n : Int))).run P w = .ok (.slice (some ⟨w.heap.size, 0, none⟩) n n) (w.alloc (.cells (List.replicate n z).toArray e)) := by
  obtain ⟨i0, hi0, hz0, hz1, hz2⟩ := info_parts hi
  have hb' : (i0.bytes : Int) * (n : Int) ≤ 281474976710656 := by
    rw [hz2]
    have : ((bytes * n : Nat) : Int) ≤ 281474976710656 := by omega
    rwa [Int.natCast_mul] at this
  have h := run_make (P := P) w t e i0 z ht hi0 hz0 .i64 .i64 (n : Int) (n : Int) (by omega) (by omega) hb' (by omega)
  rw [Int.toNat_natCast, hz1, Nat.mul_one] at h
  rw [h]
  congr 3
  unfold madeCells
  rw [hz]
  apply Array.ext
  · simp
  · intro i h1 h2
    simp [Nat.mod_one]

/-- Block p is a queue's struct, block r its ring; it holds the row xs, and has room for cap. -/
def IsQ {α : Type} (tS tE : TypeId) (enc : α → Value) (w : World) (p r cap : Nat) (xs : List α) : Prop :=
  ∃ (a : Nat) (ring : List α), RingAt ring cap a xs ∧ cap ≤ 4096 ∧ Blk w p tS #[.slice (some ⟨r, 0, none⟩) cap cap, .int .i64 a, .int .i64 xs.length] ∧ Blk w r tE (ring.map enc).toArray

section
variable {α : Type} {tS tE : TypeId} {enc : α → Value} {w w' : World} {p r cap : Nat} {xs : List α}
theorem IsQ.upd {S : List Nat} (h : IsQ tS tE enc w p r cap xs) (u : Upd S w w') (hp : p ∉ S) (hr : r ∉ S) : IsQ tS tE enc w' p r cap xs := by
  obtain ⟨a, ring, h1, h2, h3, h4⟩ := h
  exact ⟨a, ring, h1, h2, h3.upd u hp, h4.upd u hr⟩
theorem IsQ.drewN (h : IsQ tS tE enc w p r cap xs) (n : Nat) : IsQ tS tE enc (w.drewN n) p r cap xs := h
theorem IsQ.lt (h : IsQ tS tE enc w p r cap xs) : p < w.heap.size ∧ r < w.heap.size := by
  obtain ⟨a, ring, h1, h2, h3, h4⟩ := h
  exact ⟨h3.lt, h4.lt⟩
theorem IsQ.below {B : Nat} (h : IsQ tS tE enc w p r cap xs) (u : Below B w w') (hp : p < B) (hr : r < B) : IsQ tS tE enc w' p r cap xs := by
  obtain ⟨a, ring, h1, h2, h3, h4⟩ := h
  exact ⟨a, ring, h1, h2, h3.below u hp, h4.below u hr⟩
theorem IsQ.bound (h : IsQ tS tE enc w p r cap xs) : xs.length ≤ cap ∧ 1 ≤ cap ∧ cap ≤ 4096 := by
  obtain ⟨a, ring, h1, h2, h3, h4⟩ := h
  have := h1.at_
  exact ⟨h1.len, by omega, h2⟩

/-- what a walk wants of the cells -/
structure QCells (enc : α → Value) (w : World) (p r cap a n : Nat) (ring : List α) : Prop where
  c0 : w.cell? ⟨p, 0, none⟩ = some (.slice (some ⟨r, 0, none⟩) cap cap)
  c1 : w.cell? ⟨p, 1, none⟩ = some (.int .i64 a)
  c2 : w.cell? ⟨p, 2, none⟩ = some (.int .i64 n)
  f1 : w.frozen? ⟨p, 1, none⟩ = false
  f2 : w.frozen? ⟨p, 2, none⟩ = false
  cr : ∀ i (h : i < ring.length), w.cell? ⟨r, i, none⟩ = some (enc ring[i])
  fr : ∀ i, w.frozen? ⟨r, i, none⟩ = false

theorem IsQ.cells (hne : tS ≠ tE) (h : IsQ tS tE enc w p r cap xs) : ∃ (a : Nat) (ring : List α), RingAt ring cap a xs ∧ cap ≤ 4096 ∧ p ≠ r ∧ QCells enc w p r cap a xs.length ring ∧
    Blk w p tS #[.slice (some ⟨r, 0, none⟩) cap cap, .int .i64 a, .int .i64 xs.length] ∧ Blk w r tE (ring.map enc).toArray := by
  obtain ⟨a, ring, h1, h2, h3, h4⟩ := h
  refine ⟨a, ring, h1, h2, h3.ne h4 hne, ⟨?_, ?_, ?_, h3.frozen 1, h3.frozen 2, fun i hi => ?_, h4.frozen⟩, h3, h4⟩
  · rw [h3.cell]; rfl
  · rw [h3.cell]; rfl
  · rw [h3.cell]; rfl
  · rw [h4.cell]; simp [hi]

theorem set_map (l : List α) (k : Nat) (x : α) : (l.map enc).toArray.setIfInBounds k (enc x) = ((l.set k x).map enc).toArray := by
  apply Array.ext'
  simp [List.map_set]

theorem IsQ.pushed {a : Nat} {ring : List α} (h1 : RingAt ring cap a xs) (h2 : cap ≤ 4096) (hpr : p ≠ r) (h3 : Blk w p tS #[.slice (some ⟨r, 0, none⟩) cap cap, .int .i64 a, .int .i64 xs.length])
    (h4 : Blk w r tE (ring.map enc).toArray) (hl : xs.length < cap) (x : α) (q : Nat) :
    IsQ tS tE enc (((w.drewN q).setCell ⟨r, (a + xs.length) % cap, none⟩ (enc x)).setCell ⟨p, 2, none⟩ (.int .i64 (xs.length + 1))) p r cap (xs ++ [x]) ∧
      Upd [p, r] w (((w.drewN q).setCell ⟨r, (a + xs.length) % cap, none⟩ (enc x)).setCell ⟨p, 2, none⟩ (.int .i64 (xs.length + 1))) := by
  refine ⟨⟨a, _, h1.push hl x, h2, ?_, ?_⟩, (((Upd.refl _ w).drewN q).setCell (by simp) _).setCell (by simp) _⟩
  · have := ((h3.drewN q).other (p := ⟨r, (a + xs.length) % cap, none⟩) hpr (enc x)).store 2 (.int .i64 (xs.length + 1))
    simpa using this
  · have := (h4.drewN q).store ((a + xs.length) % cap) (enc x)
    rw [set_map] at this
    exact this.other (p := ⟨p, 2, none⟩) (Ne.symm hpr) _

theorem IsQ.popped {a : Nat} {ring : List α} {x : α} (h1 : RingAt ring cap a (x :: xs)) (h2 : cap ≤ 4096) (hpr : p ≠ r)
    (h3 : Blk w p tS #[.slice (some ⟨r, 0, none⟩) cap cap, .int .i64 a, .int .i64 (x :: xs).length]) (h4 : Blk w r tE (ring.map enc).toArray) (z : α) (q q' : Nat) :
    IsQ tS tE enc (((((w.drewN q).setCell ⟨r, a, none⟩ (enc z)).setCell ⟨p, 1, none⟩ (.int .i64 ((a + 1) % cap : Nat))).setCell ⟨p, 2, none⟩ (.int .i64 xs.length)).drewN q') p r cap xs ∧
      Upd [p, r] w (((((w.drewN q).setCell ⟨r, a, none⟩ (enc z)).setCell ⟨p, 1, none⟩ (.int .i64 ((a + 1) % cap : Nat))).setCell ⟨p, 2, none⟩ (.int .i64 xs.length)).drewN q') := by
  refine ⟨⟨_, _, h1.pop z, h2, ?_, ?_⟩, (((((Upd.refl _ w).drewN q).setCell (by simp) _).setCell (by simp) _).setCell (by simp) _).drewN q'⟩
  · have := ((((h3.drewN q).other (p := ⟨r, a, none⟩) hpr (enc z)).store 1 (.int .i64 ((a + 1) % cap : Nat))).store 2 (.int .i64 xs.length)).drewN q'
    simpa using this
  · have := (h4.drewN q).store a (enc z)
    rw [set_map] at this
    exact ((this.other (p := ⟨p, 1, none⟩) (Ne.symm hpr) _).other (p := ⟨p, 2, none⟩) (Ne.symm hpr) _).drewN q'

theorem IsQ.made (w : World) (cap : Nat) (h1 : 1 ≤ cap) (h2 : cap ≤ 4096) (z : α) :
    IsQ tS tE enc ((w.alloc (.cells (List.replicate cap (enc z)).toArray tE)).alloc (.cells #[.slice (some ⟨w.heap.size, 0, none⟩) cap cap, .int .i64 0, .int .i64 0] tS)) (w.heap.size + 1) w.heap.size cap ([] : List α) := by
  refine ⟨0, _, RingAt.new cap h1 z, h2, ?_, ?_⟩
  · have := Blk.new (w.alloc (.cells (List.replicate cap (enc z)).toArray tE)) tS #[.slice (some ⟨w.heap.size, 0, none⟩) cap cap, .int .i64 0, .int .i64 0]
    rw [World.size_alloc] at this
    exact this
  · have := (Blk.new w tE (List.replicate cap (enc z)).toArray).alloc (.cells #[.slice (some ⟨w.heap.size, 0, none⟩) cap cap, .int .i64 0, .int .i64 0] tS)
    rw [List.map_replicate]
    exact this
end
end Go.Proofs.Ytdcekgdihnlbpaa
