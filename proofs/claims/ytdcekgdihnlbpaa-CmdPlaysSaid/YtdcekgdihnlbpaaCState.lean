/- What the cmd laws share: an Act's cells, the board's calls of any arguments. No condition. -/
import Derived.Test.YtdcekgdihnlbpaaTable1
import Derived.Test.YtdcekgdihnlbpaaFlat
import Derived.Test.YtdcekgdihnlbpaaOpen2
namespace Go.Proofs.Ytdcekgdihnlbpaa
open Go Go.RowKit
set_option maxHeartbeats 400000

structure CAct where
  kind : Int
  shard : Int
  epoch : Int
def encC (x : CAct) : List Value := [.int .i64 x.kind, .int .i64 x.shard, .int .u64 x.epoch]
theorem encC_len (z : CAct) : (encC z).length = 3 := rfl
theorem act_at {w : World} {B len : Nat} {A : Option Addr} {l : List CAct} (h : Cells w B 3 A len (l.flatMap encC)) (hl : l.length = len) (i : Nat) (hi : i < len) :
    ∃ b off x, A = some ⟨b, off, none⟩ ∧ b < B ∧ l[i]? = some x ∧ w.cell? ⟨b, off + i * 3, none⟩ = some (.int .i64 x.kind) ∧ w.cell? ⟨b, off + i * 3 + 1, none⟩ = some (.int .i64 x.shard) ∧ w.cell? ⟨b, off + i * 3 + 2, none⟩ = some (.int .u64 x.epoch) := by
  obtain ⟨b, off, e, hb, hc⟩ := h.2 (by omega)
  have hil : i < l.length := by omega
  have hx := List.getElem?_eq_getElem hil
  refine ⟨b, off, l[i], e, hb, hx, ?_, ?_, ?_⟩
  · have := hc (i * 3 + 0) _ (flat_get encC_len l i 0 l[i] hx (by omega)); simpa [encC, Nat.add_assoc] using this
  · have := hc (i * 3 + 1) _ (flat_get encC_len l i 1 l[i] hx (by omega)); simpa [encC, Nat.add_assoc] using this
  · have := hc (i * 3 + 2) _ (flat_get encC_len l i 2 l[i] hx (by omega)); simpa [encC, Nat.add_assoc] using this

section
variable {w : World} {B : Bd} {room : Nat} {tabs : List (List (Option Addr))} {acks : List (Int × Int)} {last : List Int}
/-- Take of any shard: what is told, and what is left -/
def mTake (tabs : List (List (Option Addr))) (i : Int) : (Option Addr × Bool) × List (List (Option Addr)) :=
  if i < 0 then ((none, false), tabs) else
    match tabs[i.toNat]? with
    | some (x :: xs) => ((x, true), tabs.set i.toNat xs)
    | _ => ((none, false), tabs)
theorem IsB.take (h : IsB w B room tabs acks last) (i : Int) :
    Calls Try.prog 11 #[.pointer (some ⟨B.b, 0, none⟩), .int .i64 i] w fun e w' => e = .returned (.tuple #[.pointer (mTake tabs i).1.1, .bool (mTake tabs i).1.2]) ∧ IsB w' B room (mTake tabs i).2 acks last ∧ Upd B.foot w w' := by
  by_cases hi : i < 0
  · have e : mTake tabs i = ((none, false), tabs) := by simp [mTake, hi]
    rw [e]
    refine (take_no h i (.inl hi)).mono ?_
    rintro e w' ⟨rfl, rfl⟩
    exact ⟨rfl, h, Upd.refl _ _⟩
  · obtain ⟨j, rfl⟩ : ∃ j : Nat, i = j := ⟨i.toNat, by omega⟩
    cases ht : tabs[j]? with
    | none =>
      have e : mTake tabs j = ((none, false), tabs) := by simp [mTake, ht]
      rw [e]
      have hj : tabs.length ≤ j := List.getElem?_eq_none_iff.1 ht
      refine (take_no h j (.inr (by rw [h.lt] at hj; omega))).mono ?_
      rintro e w' ⟨rfl, rfl⟩
      exact ⟨rfl, h, Upd.refl _ _⟩
    | some xs =>
      cases xs with
      | nil =>
        have e : mTake tabs j = ((none, false), tabs) := by simp [mTake, ht]
        rw [e]
        refine (take_none h j ht).mono ?_
        rintro e w' ⟨rfl, rfl⟩
        exact ⟨rfl, h, Upd.refl _ _⟩
      | cons x xs =>
        have e : mTake tabs j = ((x, true), tabs.set j xs) := by simp [mTake, ht]
        rw [e]
        exact take_yes h j x xs ht
/-- Ack of any shard -/
def mAck (n room : Nat) (acks : List (Int × Int)) (i e : Int) : Int × List (Int × Int) :=
  if i < 0 ∨ (n : Int) ≤ i then (1, acks) else if acks.length < n * room then (0, acks ++ [(i, e)]) else (20, acks)
theorem IsB.ack (h : IsB w B room tabs acks last) (i e : Int) :
    Calls Try.prog 18 #[.pointer (some ⟨B.b, 0, none⟩), .int .i64 i, .int .u64 e] w fun x w' => x = .returned (.int .i64 (mAck B.prs.length room acks i e).1) ∧ IsB w' B room tabs (mAck B.prs.length room acks i e).2 last ∧ Upd B.foot w w' := by
  by_cases hi : i < 0 ∨ (B.prs.length : Int) ≤ i
  · have e1 : mAck B.prs.length room acks i e = (1, acks) := by simp only [mAck, if_pos hi]
    rw [e1]
    refine (ack_no h i e hi).mono ?_
    rintro e w' ⟨rfl, rfl⟩
    exact ⟨rfl, h, Upd.refl _ _⟩
  · obtain ⟨j, rfl⟩ : ∃ j : Nat, i = j := ⟨i.toNat, by omega⟩
    by_cases hl : acks.length < B.prs.length * room
    · have e1 : mAck B.prs.length room acks j e = (0, acks ++ [((j : Int), e)]) := by simp only [mAck, if_neg hi, if_pos hl]
      rw [e1]
      exact ack_yes h j e (by omega) hl
    · have e1 : mAck B.prs.length room acks j e = (20, acks) := by simp only [mAck, if_neg hi, if_neg hl]
      rw [e1]
      exact ack_full h j e (by omega) (by have := h.a.bound.1; omega)
/-- Send of a table -/
def mSend (room : Nat) (tabs : List (List (Option Addr))) (a : Addr) : Int × List (List (Option Addr)) :=
  if hasRoom room tabs then (0, tabs.map (· ++ [some a])) else (20, tabs)
theorem IsB.send (h : IsB w B room tabs acks last) (a : Addr) :
    Calls Try.prog 10 #[.pointer (some ⟨B.b, 0, none⟩), .pointer (some a)] w fun x w' => x = .returned (.int .i64 (mSend room tabs a).1) ∧ IsB w' B room (mSend room tabs a).2 acks last ∧ Upd B.foot w w' := by
  by_cases hr : hasRoom room tabs = true
  · rw [show mSend room tabs a = (0, tabs.map (· ++ [some a])) by simp only [mSend, if_pos hr]]
    exact send_yes h a hr
  · rw [show mSend room tabs a = (20, tabs) by simp only [mSend, if_neg hr]]
    refine (send_full h a (by simpa using hr)).mono ?_
    rintro e w' ⟨rfl, hu⟩
    exact ⟨rfl, h.more hu, hu.more (by simp)⟩
/-- Collect -/
theorem IsB.collect (h : IsB w B room tabs acks last) :
    Calls Try.prog 20 #[.pointer (some ⟨B.b, 0, none⟩)] w fun e w' =>
      (acks = [] ∧ e = .returned (.tuple #[.int .i64 0, .int .u64 0, .bool false]) ∧ IsB w' B room tabs [] last ∧ Upd B.foot w w') ∨
      (∃ (i : Nat) (x : Int) (xs : List (Int × Int)), acks = ((i : Int), x) :: xs ∧ i < B.prs.length ∧ e = .returned (.tuple #[.int .i64 i, .int .u64 x, .bool true]) ∧ IsB w' B room tabs xs (last.set i x) ∧ Upd B.foot w w') := by
  cases acks with
  | nil =>
    refine (collect_no h).mono ?_
    rintro e w' ⟨rfl, h1, h2⟩
    exact .inl ⟨rfl, rfl, h1, h2⟩
  | cons x xs =>
    obtain ⟨i, hi, hil⟩ := h.ok x (by simp)
    obtain ⟨x1, x2⟩ := x
    dsimp only at hi
    subst hi
    refine (collect_yes _ xs h i rfl).mono ?_
    rintro e w' ⟨rfl, h1, h2⟩
    exact .inr ⟨i, x2, xs, rfl, hil, rfl, h1, h2⟩
end
/-- the state between two rounds of CmdRooms -/
structure RoomsAt (w wr : World) (N : Nat) (B : Bd) (n k : Nat) (tabs : List (List (Option Addr))) (acks : List (Int × Int)) (last : List Int) (wv : Value) (who : List Int) (nx : Nat) : Prop where
  is : IsB wr B k tabs acks last
  nn : B.prs.length = n
  own : wr.ownsRow N 3 1 wv who.length (who.map (Value.int .i64))
  ft : ∀ s, s ∈ B.foot → w.heap.size ≤ s ∧ s < N
  base : w.heap.size ≤ N
  size : N ≤ wr.heap.size
  bel : Below w.heap.size w wr
  ak : acks.map (·.1) = who.drop nx
  nle : nx ≤ who.length
section
variable {w wr w' : World} {N : Nat} {B : Bd} {n k : Nat} {tabs tabs' : List (List (Option Addr))} {acks acks' : List (Int × Int)} {last last' : List Int} {wv wv' : Value} {who : List Int} {nx nx' : Nat}
theorem RoomsAt.cnt (h : RoomsAt w wr N B n k tabs acks last wv who nx) : acks.length + nx = who.length := by
  have := congrArg List.length h.ak
  rw [List.length_map, List.length_drop] at this
  have := h.nle
  omega
theorem RoomsAt.row (h : RoomsAt w wr N B n k tabs acks last wv who nx) (u : Upd B.foot wr w') : w'.ownsRow N 3 1 wv who.length (who.map (Value.int .i64)) :=
  ownsRow_upd h.own u fun s hs e => by have := (own_block_lt h.own e).1; have := (h.ft s hs).2; omega
theorem RoomsAt.step (h : RoomsAt w wr N B n k tabs acks last wv who nx) (hb : IsB w' B k tabs' acks' last') (u : Upd B.foot wr w') (ha : acks'.map (·.1) = who.drop nx') (hn : nx' ≤ who.length) : RoomsAt w w' N B n k tabs' acks' last' wv who nx' :=
  ⟨hb, h.nn, h.row u, h.ft, h.base, Nat.le_trans h.size u.size, h.bel.trans (u.below h.bel.size fun s hs => (h.ft s hs).1), ha, hn⟩
theorem RoomsAt.more (h : RoomsAt w wr N B n k tabs acks last wv who nx) (u : Upd [] wr w') : RoomsAt w w' N B n k tabs acks last wv who nx :=
  h.step (h.is.more u) (u.more (by simp)) h.ak h.nle
theorem RoomsAt.pushed {w1 w2 : World} {o : Obj} {x e : Int} (h : RoomsAt w wr N B n k tabs acks last wv who nx) (hb : IsB w1 B k tabs (acks ++ [(x, e)]) last) (u : Upd B.foot wr w1)
    (hown : w2.ownsRow N 3 1 wv' (who.length + 1) (who.map (Value.int .i64) ++ [.int .i64 x])) (hg : (w1.alloc o).grownBy w2 wv.ownBlock) : RoomsAt w w2 N B n k tabs (acks ++ [(x, e)]) last wv' (who ++ [x]) nx := by
  have hr := (h.row u).alloc o
  have hsz : N ≤ (w1.alloc o).heap.size := Nat.le_trans (Nat.le_trans h.size u.size) (by simp)
  have hbel := grown_upd hr hg hsz
  have b1 : Below w.heap.size w (w1.alloc o) := (h.bel.trans (u.below h.bel.size fun s hs => (h.ft s hs).1)).trans (Below.alloc (Below.refl _ _) (Nat.le_trans h.bel.size u.size) o)
  refine ⟨(hb.more ((Upd.refl [] w1).alloc o)).upd (Upd.of_grown hg) (fun s hs hf => ?_), h.nn, by simpa using hown, h.ft, h.base, Nat.le_trans hsz hg.size, b1.trans (hbel.mono h.base), ?_, by rw [List.length_append]; have := h.nle; omega⟩
  · have := (own_block_lt hr (g := s) (by simpa using hs)).1
    have := (h.ft s hf).2
    omega
  · rw [List.map_append, h.ak, List.drop_append_of_le_length h.nle]; rfl
end
end Go.Proofs.Ytdcekgdihnlbpaa
