/- PinsPlays: the walk. -/
import Derived.Test.YtembadjfialenaaPRef5
import Derived.Test.YtembadjfialenaaPBounds
import Derived.Deep.DeepCutAuto
import Derived.Deep.LoopGhost
namespace Go.Proofs.Ytembadjfialenaa
open Go Go.RowKit
set_option maxHeartbeats 400000

/-- the state between two rounds: the pins, and the document's, are the same -/
structure PPlayAt (w wr : World) (N g lw gr : Nat) (ws : List Wk) (wts : List Wt) (wv : Value) (A : Option Addr) (n c : Nat) (B : Option Addr) (k d : Nat) : Prop where
  pa : PA w wr N g lw ws wts wv
  rp : RP wr 0 A n c B k d (ws.map nrm) wts
  blk : Blk wr gr 29 #[.slice A n c, .slice B k d]
  far : ∀ s, s ∈ g :: lw :: gr :: wv.ownBlock.toList → (∀ a, A = some a → a.block ≠ s) ∧ (0 < k → ∀ a, B = some a → a.block ≠ s)
  grN : gr < N
  grw : w.heap.size ≤ gr
  grg : gr ≠ g
  grl : gr ≠ lw

/-- the document's pins have turned, then the pins themselves -/
theorem PPlayAt.turn {w wr w1 w3 w4 : World} {N g lw gr n c k d c' k' d' : Nat} {ws ws4 : List Wk} {wts wts4 : List Wt} {wv wv4 : Value} {A B A' B' : Option Addr} {S : List Nat}
    (h : PPlayAt w wr N g lw gr ws wts wv A n c B k d) (hb : Below wr.heap.size wr w1) (hr : RP w1 0 A' n c' B' k' d' (ws4.map nrm) wts4) (fA : Fresh wr n A A') (fB : FreshB wr k k' B B')
    (u1 : Upd [gr] w1 w3) (hblk : Blk w3 gr 29 #[.slice A' n c', .slice B' k' d']) (hp : PA w w4 N g lw ws4 wts4 wv4) (u2 : Upd S w3 w4) (hS : ∀ s, s ∈ S → s ∈ g :: lw :: wv.ownBlock.toList)
    (hv : ∀ b, wv4.ownBlock = some b → wv.ownBlock = some b ∨ w3.heap.size ≤ b) : PPlayAt w w4 N g lw gr ws4 wts4 wv4 A' n c' B' k' d' := by
  have hn1 := h.rp.n1
  have hwo : ∀ b, wv.ownBlock = some b → N ≤ b ∧ b < wr.heap.size := fun b hb => h.pa.is.foot hb
  have hold : ∀ s, s ∈ g :: lw :: gr :: wv.ownBlock.toList → s < wr.heap.size := by
    intro s hs
    have h1 := h.pa.is.blk.lt
    have h2 := h.pa.is.wks.lt
    have h3 := h.blk.lt
    simp only [List.mem_cons] at hs
    rcases hs with rfl | rfl | rfl | hs
    · exact h1
    · exact h2
    · exact h3
    · exact (hwo s (by simpa using hs)).2
  have hfA : ∀ s, s ∈ g :: lw :: gr :: wv.ownBlock.toList → ∀ a, A' = some a → a.block ≠ s := by
    intro s hs a ha
    rcases fA (by omega) a ha with e | e
    · exact (h.far s hs).1 a (by rw [← e]; exact ha)
    · have := hold s hs; omega
  have hfB : ∀ s, s ∈ g :: lw :: gr :: wv.ownBlock.toList → 0 < k' → ∀ a, B' = some a → a.block ≠ s := by
    intro s hs hk' a ha
    rcases fB hk' a ha with e | e
    · exact (h.far s hs).2 e.1 a (by rw [← e.2]; exact ha)
    · have := hold s hs; omega
  have hSg : ∀ s, s ∈ S → s ∈ g :: lw :: gr :: wv.ownBlock.toList := fun s hs => by
    have := hS s hs
    simp only [List.mem_cons] at this ⊢
    rcases this with h1 | h1 | h1
    · exact .inl h1
    · exact .inr (.inl h1)
    · exact .inr (.inr (.inr h1))
  have hrS : gr ∉ S := fun hs => by
    have := hS gr hs
    simp only [List.mem_cons] at this
    rcases this with e | e | e
    · exact h.grg e
    · exact h.grl e
    · have := (hwo gr (by simpa using e)).1; have := h.grN; omega
  have hl : ∀ {W W' : World} {T : List Nat}, CellsIn W 0 W.heap.size 3 A' n ((ws4.map nrm).flatMap encW) → Upd T W W' → (∀ s, s ∈ T → s ∈ g :: lw :: gr :: wv.ownBlock.toList) → CellsIn W' 0 W'.heap.size 3 A' n ((ws4.map nrm).flatMap encW) :=
    fun hc u hT => (hc.upd2 u (Nat.le_refl _) (fun s hs _ => hfA s (hT s hs))).more (Nat.le_refl _) u.size
  have ht : ∀ {W W' : World} {T : List Nat}, CellsIn W 0 W.heap.size 3 B' k' (wts4.flatMap encT) → Upd T W W' → (∀ s, s ∈ T → s ∈ g :: lw :: gr :: wv.ownBlock.toList) → CellsIn W' 0 W'.heap.size 3 B' k' (wts4.flatMap encT) :=
    fun hc u hT => (hc.upd2 u (Nat.le_refl _) (fun s hs => hfB s (hT s hs))).more (Nat.le_refl _) u.size
  have hT1 : ∀ s, s ∈ [gr] → s ∈ g :: lw :: gr :: wv.ownBlock.toList := by simp
  refine ⟨hp, ⟨hl (hl hr.l u1 hT1) u2 hSg, ht (ht hr.t u1 hT1) u2 hSg, hr.lA, hr.tB, hr.n1, hr.n4, hr.few, Nat.zero_le _⟩, hblk.upd u2 hrS, fun s hs => ?_, h.grN, h.grw, h.grg, h.grl⟩
  have hA3 : ∀ a, A' = some a → a.block < w3.heap.size := fun a ha => by
    obtain ⟨b, off, e, _, h2, _⟩ := hr.l.2 (by omega)
    rw [ha] at e
    obtain rfl := Option.some.inj e
    exact Nat.lt_of_lt_of_le h2 u1.size
  have hB3 : 0 < k' → ∀ a, B' = some a → a.block < w3.heap.size := fun hk' a ha => by
    obtain ⟨b, off, e, _, h2, _⟩ := hr.t.2 hk'
    rw [ha] at e
    obtain rfl := Option.some.inj e
    exact Nat.lt_of_lt_of_le h2 u1.size
  by_cases hs2 : s ∈ g :: lw :: gr :: wv.ownBlock.toList
  · exact ⟨hfA s hs2, hfB s hs2⟩
  · have : wv4.ownBlock = some s := by
      simp only [List.mem_cons] at hs hs2
      rcases hs with e | e | e | e
      · exact absurd (.inl e) hs2
      · exact absurd (.inr (.inl e)) hs2
      · exact absurd (.inr (.inr (.inl e))) hs2
      · simpa using e
    rcases hv s this with e | e
    · exact absurd (by simp [e]) hs2
    · exact ⟨fun a ha => by have := hA3 a ha; omega, fun hk' a ha => by have := hB3 hk' a ha; omega⟩
theorem PPlayAt.upd {w wr w' : World} {N g lw gr n c k d : Nat} {ws : List Wk} {wts : List Wt} {wv : Value} {A B : Option Addr} (h : PPlayAt w wr N g lw gr ws wts wv A n c B k d) (u : Upd [] wr w') : PPlayAt w w' N g lw gr ws wts wv A n c B k d :=
  ⟨h.pa.upd u, h.rp.upd u (by simp), h.blk.upd u (by simp), h.far, h.grN, h.grw, h.grg, h.grl⟩
/-- the pins, behind a turn of the document's -/
theorem PPlayAt.pins {w wr w1 w3 : World} {N g lw gr n c k d : Nat} {ws : List Wk} {wts : List Wt} {wv : Value} {A B : Option Addr} (h : PPlayAt w wr N g lw gr ws wts wv A n c B k d) (hb : Below wr.heap.size wr w1) (u1 : Upd [gr] w1 w3) : PA w w3 N g lw ws wts wv := by
  have p1 := h.pa.upd (Upd.of_below hb)
  have hgr : wv.ownBlock ≠ some gr := fun e => by have := (h.pa.is.foot e).1; have := h.grN; omega
  exact ⟨p1.is.upd u1 (by simp; exact h.grg.symm) (by simp; exact h.grl.symm) (by simp; exact hgr), Nat.le_trans p1.N u1.size, p1.g, p1.lw, p1.below.trans (u1.below p1.below.size (by simp; exact h.grw))⟩
theorem sub_own {g lw s : Nat} {l : List Nat} (h : s ∈ g :: l) : s ∈ g :: lw :: l := by
  rcases List.mem_cons.1 h with h | h
  · exact List.mem_cons.2 (.inl h)
  · exact List.mem_cons.2 (.inr (List.mem_cons.2 (.inr h)))
end Go.Proofs.Ytembadjfialenaa
