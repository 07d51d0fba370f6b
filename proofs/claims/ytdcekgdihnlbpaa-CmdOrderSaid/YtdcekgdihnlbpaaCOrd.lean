/- The state between two rounds of CmdOrder. No condition. -/
import Derived.Test.YtdcekgdihnlbpaaCState
import Derived.Test.YtdcekgdihnlbpaaCells
namespace Go.Proofs.Ytdcekgdihnlbpaa
open Go Go.RowKit
set_option maxHeartbeats 400000

theorem infoI : (Try.prog.info? 3).map (fun i => (i.zero, i.size, i.bytes)) = some (some (.int .i64 0), 1, 8) := by kernel_rfl
theorem infoT : (Try.prog.info? 28).map (fun i => (i.zero, i.size, i.bytes)) = some (some (.pointer none), 1, 8) := by kernel_rfl
/-- what each shard has still to take -/
def left (sent : List Addr) (next : List Nat) : List (List (Option Addr)) := next.map fun j => (sent.drop j).map some
theorem left_send (sent : List Addr) (next : List Nat) (a : Addr) (h : ∀ j, j ∈ next → j ≤ sent.length) : (left sent next).map (· ++ [some a]) = left (sent ++ [a]) next := by
  unfold left
  rw [List.map_map]
  refine List.map_congr_left fun j hj => ?_
  simp only [Function.comp_apply]
  rw [List.drop_append_of_le_length (h j hj), List.map_append]; rfl
theorem left_take (sent : List Addr) (next : List Nat) (q j : Nat) (hj : next[q]? = some j) (a : Addr) (ha : sent[j]? = some a) :
    mTake (left sent next) q = ((some a, true), left sent (next.set q (j + 1))) := by
  have hl := (List.getElem?_eq_some_iff.1 ha).1
  have h1 : (left sent next)[q]? = some (some a :: (sent.drop (j + 1)).map some) := by
    unfold left
    rw [List.getElem?_map, hj, Option.map_some, List.drop_eq_getElem_cons hl, List.map_cons]
    rw [(List.getElem?_eq_some_iff.1 ha).2]
  have h2 : (left sent next).set q ((sent.drop (j + 1)).map some) = left sent (next.set q (j + 1)) := by
    unfold left; rw [List.map_set]
  unfold mTake
  rw [if_neg (by omega), Int.toNat_natCast, h1]
  dsimp only
  rw [h2]
theorem left_none (sent : List Addr) (next : List Nat) (q j : Nat) (hj : next[q]? = some j) (hl : sent.length ≤ j) : mTake (left sent next) q = ((none, false), left sent next) := by
  have h1 : (left sent next)[q]? = some [] := by
    unfold left
    rw [List.getElem?_map, hj, Option.map_some, List.drop_eq_nil_of_le hl]; rfl
  unfold mTake
  rw [if_neg (by omega), Int.toNat_natCast, h1]

structure OrdAt (w wr : World) (N : Nat) (B : Bd) (n k gn : Nat) (vs : Value) (sent : List Addr) (next : List Nat) (acks : List (Int × Int)) (last : List Int) : Prop where
  is : IsB wr B k (left sent next) acks last
  nn : B.prs.length = n
  own : wr.ownsRow N 28 1 vs sent.length (sent.map fun a => Value.pointer (some a))
  nx : Blk wr gn 3 (next.map fun j : Nat => Value.int .i64 j).toArray
  le : ∀ j, j ∈ next → j ≤ sent.length
  ft : ∀ s, s ∈ B.foot → w.heap.size ≤ s ∧ s < N ∧ s ≠ gn
  gn : w.heap.size ≤ gn ∧ gn < N
  base : w.heap.size ≤ N
  size : N ≤ wr.heap.size
  bel : Below w.heap.size w wr
section
variable {w wr w' : World} {N : Nat} {B : Bd} {n k gn : Nat} {vs vs' : Value} {sent : List Addr} {next next' : List Nat} {acks acks' : List (Int × Int)} {last last' : List Int}
theorem OrdAt.nlen (h : OrdAt w wr N B n k gn vs sent next acks last) : next.length = n := by
  have := h.is.lt
  unfold left at this
  rw [List.length_map] at this
  rw [this]; exact h.nn
theorem OrdAt.row (h : OrdAt w wr N B n k gn vs sent next acks last) (u : Upd B.foot wr w') : w'.ownsRow N 28 1 vs sent.length (sent.map fun a => Value.pointer (some a)) :=
  ownsRow_upd h.own u fun s hs e => by have := (own_block_lt h.own e).1; have := (h.ft s hs).2; omega
theorem OrdAt.nxt (h : OrdAt w wr N B n k gn vs sent next acks last) (u : Upd B.foot wr w') : Blk w' gn 3 (next.map fun j : Nat => Value.int .i64 j).toArray :=
  h.nx.upd u fun hs => (h.ft _ hs).2.2 rfl
theorem OrdAt.step (h : OrdAt w wr N B n k gn vs sent next acks last) (hb : IsB w' B k (left sent next) acks' last') (u : Upd B.foot wr w') : OrdAt w w' N B n k gn vs sent next acks' last' :=
  ⟨hb, h.nn, h.row u, h.nxt u, h.le, h.ft, h.gn, h.base, Nat.le_trans h.size u.size, h.bel.trans (u.below h.bel.size fun s hs => (h.ft s hs).1)⟩
theorem OrdAt.more (h : OrdAt w wr N B n k gn vs sent next acks last) (u : Upd [] wr w') : OrdAt w w' N B n k gn vs sent next acks last :=
  h.step (h.is.more u) (u.more (by simp))
theorem OrdAt.pushed {w1 w2 : World} {o : Obj} {a : Addr} (h : OrdAt w wr N B n k gn vs sent next acks last) (hb : IsB w1 B k (left (sent ++ [a]) next) acks last) (u : Upd B.foot wr w1)
    (hown : w2.ownsRow N 28 1 vs' (sent.length + 1) ((sent.map fun a => Value.pointer (some a)) ++ [.pointer (some a)])) (hg : (w1.alloc o).grownBy w2 vs.ownBlock) : OrdAt w w2 N B n k gn vs' (sent ++ [a]) next acks last := by
  have hr := (h.row u).alloc o
  have hsz : N ≤ (w1.alloc o).heap.size := Nat.le_trans (Nat.le_trans h.size u.size) (by simp)
  have hbel := grown_upd hr hg hsz
  have b1 : Below w.heap.size w (w1.alloc o) := (h.bel.trans (u.below h.bel.size fun s hs => (h.ft s hs).1)).trans (Below.alloc (Below.refl _ _) (Nat.le_trans h.bel.size u.size) o)
  have hno : ∀ s, s ∈ vs.ownBlock.toList → N ≤ s := fun s hs => (own_block_lt hr (g := s) (by simpa using hs)).1
  refine ⟨(hb.more ((Upd.refl [] w1).alloc o)).upd (Upd.of_grown hg) (fun s hs hf => ?_), h.nn, by simpa using hown, ((h.nxt u).alloc o).upd (Upd.of_grown hg) (fun hs => ?_), fun j hj => ?_, h.ft, h.gn, h.base, Nat.le_trans hsz hg.size, b1.trans (hbel.mono h.base)⟩
  · have := hno s hs
    have := (h.ft s hf).2
    omega
  · have := hno _ hs
    have := h.gn
    omega
  · rw [List.length_append]; have := h.le j hj; omega
/-- a shard took -/
theorem OrdAt.took (h : OrdAt w wr N B n k gn vs sent next acks last) (q j : Nat) (hj : next[q]? = some j) (hl : j < sent.length) (hb : IsB w' B k (left sent (next.set q (j + 1))) acks last) (u : Upd B.foot wr w') :
    OrdAt w (w'.setCell ⟨gn, q, none⟩ (.int .i64 ((j : Int) + 1))) N B n k gn vs sent (next.set q (j + 1)) acks last := by
  have u2 : Upd [gn] w' (w'.setCell ⟨gn, q, none⟩ (.int .i64 ((j : Int) + 1))) := (Upd.refl _ _).setCell (by simp) _
  have hn := h.nxt u
  refine ⟨hb.upd u2 (fun s hs hf => ?_), h.nn, ownsRow_upd (h.row u) u2 (fun s hs e => ?_), ?_, fun i hi => ?_, h.ft, h.gn, h.base, Nat.le_trans (Nat.le_trans h.size u.size) u2.size, (h.bel.trans (u.below h.bel.size fun s hs => (h.ft s hs).1)).trans (u2.below (Nat.le_trans h.bel.size u.size) (fun s hs => by simp at hs; subst hs; exact h.gn.1))⟩
  · simp at hs; exact (h.ft s hf).2.2 hs
  · simp at hs; subst hs
    have := (own_block_lt (h.row u) e).1
    have := h.gn
    omega
  · have h1 := hn.store q (.int .i64 ((j : Int) + 1))
    have e1 : ((next.map fun j : Nat => Value.int .i64 j).toArray.setIfInBounds q (.int .i64 ((j : Int) + 1))) = ((next.set q (j + 1)).map fun j : Nat => Value.int .i64 j).toArray := by
      apply Array.ext'
      simp [List.map_set]
    rw [e1] at h1
    exact h1
  · rcases List.mem_or_eq_of_mem_set hi with h3 | rfl
    · exact h.le i h3
    · exact hl
theorem OrdAt.at (h : OrdAt w wr N B n k gn vs sent next acks last) {q j : Nat} (hj : next[q]? = some j) : wr.cell? ⟨gn, q, none⟩ = some (.int .i64 j) := by
  rw [h.nx.cell q, List.getElem?_toArray, List.getElem?_map, hj]; rfl
theorem OrdAt.has (h : OrdAt w wr N B n k gn vs sent next acks last) {q : Nat} (hq : q < n) : ∃ j, next[q]? = some j ∧ j ≤ sent.length := by
  have hl := h.nlen
  exact ⟨next[q], List.getElem?_eq_getElem (by omega), h.le _ (List.getElem_mem _)⟩
theorem OrdAt.lft (_h : OrdAt w wr N B n k gn vs sent next acks last) {q j : Nat} (hj : next[q]? = some j) : (left sent next)[q]? = some ((sent.drop j).map some) := by
  unfold left; rw [List.getElem?_map, hj]; rfl
end
end Go.Proofs.Ytdcekgdihnlbpaa
