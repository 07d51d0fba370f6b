/- A slice whose cells lie in blocks between two bounds. Plain laws on worlds. -/
import Derived.Test.YtgkejdjdccgjbaaWords
namespace Go.Proofs.Ytgkejdjdccgjbaa
open Go Go.RowKit

/-- A slice whose cells lie in blocks from lo to hi. -/
def CellsIn (w : World) (lo hi size : Nat) (A : Option Addr) (n : Nat) (xs : List Value) : Prop :=
  xs.length = n * size ∧ (0 < n → ∃ b off, A = some ⟨b, off, none⟩ ∧ lo ≤ b ∧ b < hi ∧ ∀ (j : Nat) (u : Value), xs[j]? = some u → w.cell? ⟨b, off + j, none⟩ = some u)
section
variable {w w' : World} {lo hi size n : Nat} {A : Option Addr} {xs : List Value}
theorem CellsIn.upd {S : List Nat} (h : CellsIn w lo hi size A n xs) (u : Upd S w w') (hh : hi ≤ w.heap.size) (hS : ∀ s, s ∈ S → s < lo ∨ hi ≤ s) : CellsIn w' lo hi size A n xs :=
  ⟨h.1, fun hn => by
    obtain ⟨b, off, e, h1, h2, hc⟩ := h.2 hn
    exact ⟨b, off, e, h1, h2, fun j v hv => (u.cell (p := ⟨b, off + j, none⟩) (Nat.lt_of_lt_of_le h2 hh) (fun hb => by have := hS b hb; omega)).trans (hc j v hv)⟩⟩
theorem CellsIn.below {B : Nat} (h : CellsIn w lo hi size A n xs) (u : Below B w w') (hh : hi ≤ B) : CellsIn w' lo hi size A n xs :=
  ⟨h.1, fun hn => by
    obtain ⟨b, off, e, h1, h2, hc⟩ := h.2 hn
    exact ⟨b, off, e, h1, h2, fun j v hv => (u.cell (p := ⟨b, off + j, none⟩) (Nat.lt_of_lt_of_le h2 hh)).trans (hc j v hv)⟩⟩
theorem CellsIn.more {lo' hi' : Nat} (h : CellsIn w lo hi size A n xs) (h1 : lo' ≤ lo) (h2 : hi ≤ hi') : CellsIn w lo' hi' size A n xs :=
  ⟨h.1, fun hn => by
    obtain ⟨b, off, e, h3, h4, hc⟩ := h.2 hn
    exact ⟨b, off, e, by omega, by omega, hc⟩⟩
theorem CellsIn.nil (w : World) (lo hi size : Nat) (A : Option Addr) : CellsIn w lo hi size A 0 [] := ⟨by simp, fun h => absurd h (Nat.lt_irrefl 0)⟩
theorem CellsIn.of_own {e : TypeId} {c : Nat} (h : w.ownsRow lo e size (.slice A n c) n xs) : CellsIn w lo w.heap.size size A n xs := by
  refine ⟨h.1, fun hn => ?_⟩
  obtain ⟨A', c', hv, _, hA, _⟩ := own_form h
  injection hv with h1 h2 h3
  subst h1
  obtain ⟨g, hg, hlo, hlt⟩ := hA hn
  subst hg
  refine ⟨g, 0, rfl, hlo, hlt, fun j u hu => ?_⟩
  have := h.cells (g := g) rfl j u hu
  rw [Nat.zero_add]
  by_cases hj : j = 0
  · subst hj; simpa [Addr.add] using this
  · simpa [Addr.add, hj] using this
/-- the slice lies in blocks from lo on -/
theorem CellsIn.fresh (h : CellsIn w lo hi size A n xs) (hn : 0 < n) : ∀ a, A = some a → lo ≤ a.block := by
  intro a ha
  obtain ⟨b, off, e, h1, _, _⟩ := h.2 hn
  rw [ha] at e
  obtain rfl := Option.some.inj e
  exact h1
/-- as '.upd', block by block -/
theorem CellsIn.upd2 {S : List Nat} (h : CellsIn w lo hi size A n xs) (u : Upd S w w') (hh : hi ≤ w.heap.size) (hS : ∀ s, s ∈ S → 0 < n → ∀ a, A = some a → a.block ≠ s) : CellsIn w' lo hi size A n xs :=
  ⟨h.1, fun hn => by
    obtain ⟨b, off, e, h1, h2, hc⟩ := h.2 hn
    exact ⟨b, off, e, h1, h2, fun j v hv => (u.cell (p := ⟨b, off + j, none⟩) (Nat.lt_of_lt_of_le h2 hh) (fun hb => hS b hb hn _ e rfl)).trans (hc j v hv)⟩⟩
/-- what an append wants of its source -/
theorem CellsIn.src (h : CellsIn w lo hi size A n xs) : ∀ ad, A = some ad → ∀ (j : Nat) (u : Value), xs[j]? = some u → w.cell? (ad.add j) = some u := by
  intro ad had j u hu
  have hj := (List.getElem?_eq_some_iff.1 hu).1
  have hn : 0 < n := by
    rcases Nat.eq_zero_or_pos n with h0 | h0
    · have := h.1; rw [h0, Nat.zero_mul] at this; omega
    · exact h0
  obtain ⟨b, off, e, _, _, hc⟩ := h.2 hn
  rw [had] at e
  injection e with e
  subst e
  have := hc j u hu
  unfold Addr.add
  by_cases hj0 : j = 0
  · subst hj0; simpa using this
  · simpa [hj0] using this
end

theorem own_cap {w : World} {B : Nat} {e : TypeId} {size n c : Nat} {A : Option Addr} {xs : List Value} (h : w.ownsRow B e size (.slice A n c) n xs) : c ≤ 9223372036854775807 := by
  rcases h.2 with ⟨hv, _⟩ | ⟨g, cap, cur, hv, _, _, _, hm, _⟩
  · injection hv with _ _ h3; omega
  · injection hv with _ _ h3; rw [h3]; exact hm

theorem bodyPost_res {P : Program} {fn : Func} {R : Ending → World → Prop} {a : Act} {w : World} {v : Value} (h : (results fn a.tmps).run P w = .ok v w) (hd : a.defers = []) (hR : R (.returned v) w) : bodyPost P fn R .ret a w :=
  bodyPost_ret h hd hR
end Go.Proofs.Ytgkejdjdccgjbaa
