/- A slice of integers: where it lies, its capacity, what it holds. Plain laws on worlds. -/
import Derived.Test.YtgkejdjdccgjbaaOct
namespace Go.Proofs.Ytgkejdjdccgjbaa
open Go Go.RowKit

structure Rw where
  A : Option Addr
  c : Nat
  xs : List Int
def encR (r : Rw) : Value := .slice r.A r.xs.length r.c
/-- such a slice in memory, in blocks from lo on -/
structure RowIn (w : World) (lo : Nat) (k : IntKind) (r : Rw) : Prop where
  l : CellsIn w lo w.heap.size 1 r.A r.xs.length (r.xs.map (Value.int k))
  nl : r.A = none → r.xs.length = 0 ∧ r.c = 0
  le : r.xs.length ≤ r.c
  cm : r.c ≤ 9223372036854775807
theorem RowIn.below {w w' : World} {lo : Nat} {k : IntKind} {r : Rw} (h : RowIn w lo k r) (b : Below w.heap.size w w') : RowIn w' lo k r :=
  ⟨(h.l.below b (Nat.le_refl _)).more (Nat.le_refl _) b.size, h.nl, h.le, h.cm⟩
theorem RowIn.upd2 {w w' : World} {lo : Nat} {X : List Nat} {k : IntKind} {r : Rw} (h : RowIn w lo k r) (u : Upd X w w') (hX : ∀ s, s ∈ X → ∀ a, r.A = some a → a.block ≠ s) : RowIn w' lo k r :=
  ⟨(h.l.upd2 u (Nat.le_refl _) (fun s hs _ a ha => hX s hs a ha)).more (Nat.le_refl _) u.size, h.nl, h.le, h.cm⟩
theorem RowIn.more {w : World} {lo lo' : Nat} {k : IntKind} {r : Rw} (h : RowIn w lo k r) (hl : lo' ≤ lo) : RowIn w lo' k r := ⟨h.l.more hl (Nat.le_refl _), h.nl, h.le, h.cm⟩
theorem RowIn.at {w : World} {lo : Nat} {k : IntKind} {r : Rw} (h : RowIn w lo k r) (hn : 0 < r.xs.length) : ∃ b off, r.A = some ⟨b, off, none⟩ ∧ lo ≤ b ∧ b < w.heap.size ∧ ∀ (i : Nat) (x : Int), r.xs[i]? = some x → w.cell? ⟨b, off + i, none⟩ = some (.int k x) := by
  obtain ⟨b, off, e, h1, h2, hc⟩ := h.l.2 hn
  exact ⟨b, off, e, h1, h2, fun i x hx => hc i _ (by rw [List.getElem?_map, hx]; rfl)⟩
theorem RowIn.of_own {w : World} {N c : Nat} {A : Option Addr} {xs : List Int} {k : IntKind} {t : TypeId} (h : w.ownsRow N t 1 (.slice A xs.length c) xs.length (xs.map (Value.int k))) : RowIn w N k ⟨A, c, xs⟩ := by
  obtain ⟨A', c', hv, hc, _, hn⟩ := own_form h
  injection hv with e1 _ e3
  subst e1
  subst e3
  exact ⟨CellsIn.of_own h, hn, hc, own_cap h⟩
theorem RowIn.drop {w : World} {lo : Nat} {k : IntKind} {b off c : Nat} {xs : List Int} (n : Nat) (h : RowIn w lo k ⟨some ⟨b, off, none⟩, c, xs⟩) : RowIn w lo k ⟨some ⟨b, off + n, none⟩, c - n, xs.drop n⟩ := by
  have hl := h.le
  have hm := h.cm
  dsimp only at hl hm
  refine ⟨⟨by simp, fun hn => ?_⟩, (fun e => by cases e), by dsimp only; rw [List.length_drop]; omega, by dsimp only; omega⟩
  dsimp only [List.length_drop] at hn
  rw [List.length_drop] at hn
  obtain ⟨b', off', e, h1, h2, hc⟩ := h.l.2 (by dsimp only; omega)
  injection e with e
  injection e with e1 e2
  subst e1
  subst e2
  refine ⟨b, off + n, rfl, h1, h2, fun j u hu => ?_⟩
  have := hc (n + j) u (by rw [List.map_drop, List.getElem?_drop] at hu; exact hu)
  rwa [show off + (n + j) = off + n + j by omega] at this
theorem RowIn.take {w : World} {lo : Nat} {k : IntKind} {b off c : Nat} {xs : List Int} (n : Nat) (hn : n ≤ xs.length) (h : RowIn w lo k ⟨some ⟨b, off, none⟩, c, xs⟩) : RowIn w lo k ⟨some ⟨b, off, none⟩, n, xs.take n⟩ := by
  have hl := h.le
  have hm := h.cm
  dsimp only at hl hm
  refine ⟨⟨by simp, fun hp => ?_⟩, (fun e => by cases e), by dsimp only; rw [List.length_take]; omega, by dsimp only; omega⟩
  rw [List.length_take] at hp
  obtain ⟨b', off', e, h1, h2, hc⟩ := h.l.2 (by dsimp only; omega)
  refine ⟨b', off', e, h1, h2, fun j u hu => hc j u ?_⟩
  rw [List.map_take, List.getElem?_take] at hu
  split at hu
  · exact hu
  · cases hu
theorem RowIn.nilAt {w : World} {lo : Nat} {k : IntKind} {a : Addr} : RowIn w lo k ⟨some a, 0, []⟩ := ⟨CellsIn.nil _ _ _ _ _, (fun e => by cases e), Nat.le_refl _, by simp⟩
theorem RowIn.nil {w : World} {lo : Nat} {k : IntKind} : RowIn w lo k ⟨none, 0, []⟩ := ⟨CellsIn.nil _ _ _ _ _, fun _ => ⟨rfl, rfl⟩, Nat.le_refl _, by simp⟩
end Go.Proofs.Ytgkejdjdccgjbaa
