/- cmd's board in memory, and its functions but New, Room and Send: what each does. Conditions: the board is one of 1 to 4 shards, with rooms for 1 to 1000. -/
import Derived.Test.YtdcekgdihnlbpaaIter
namespace Go.Proofs.Ytdcekgdihnlbpaa
open Go Go.RowKit
set_option maxHeartbeats 400000

/-- where a board lies: its struct, its row of queues (of a capacity), what was acknowledged, the acknowledgements' queue and ring, each queue and its ring -/
structure Bd where
  b : Nat
  tb : Nat
  tc : Nat
  la : Nat
  pa : Nat
  ra : Nat
  prs : List (Nat × Nat)
def Bd.foot (B : Bd) : List Nat := B.b :: B.tb :: B.la :: B.pa :: B.ra :: (B.prs.map (·.1) ++ B.prs.map (·.2))

/-- the board in memory: each shard's tables, the acknowledgements that wait, those that were collected last -/
structure IsB (w : World) (B : Bd) (room : Nat) (tabs : List (List (Option Addr))) (acks : List (Int × Int)) (last : List Int) : Prop where
  blk : Blk w B.b 67 #[.slice (some ⟨B.tb, 0, none⟩) B.prs.length B.tc, .pointer (some ⟨B.pa, 0, none⟩), .slice (some ⟨B.la, 0, none⟩) B.prs.length B.prs.length]
  row : w.ownsRow 0 68 1 (.slice (some ⟨B.tb, 0, none⟩) B.prs.length B.tc) B.prs.length (B.prs.map fun q => Value.pointer (some ⟨q.1, 0, none⟩))
  q : ∀ (i : Nat) (pr : Nat × Nat) (xs : List (Option Addr)), B.prs[i]? = some pr → tabs[i]? = some xs → QT.Q w pr.1 pr.2 room xs
  inj : ∀ (i j : Nat) (p p' : Nat × Nat), B.prs[i]? = some p → B.prs[j]? = some p' → i ≠ j → p.1 ≠ p'.1 ∧ p.2 ≠ p'.2
  a : QA.Q w B.pa B.ra (B.prs.length * room) acks
  l : Blk w B.la 30 (last.map (Value.int .u64)).toArray
  lt : tabs.length = B.prs.length
  ll : last.length = B.prs.length
  n1 : 1 ≤ B.prs.length
  n4 : B.prs.length ≤ 4
  r1 : 1 ≤ room
  rm : room ≤ 1000
  ok : ∀ (x : Int × Int), x ∈ acks → ∃ i : Nat, x.1 = (i : Int) ∧ i < B.prs.length

section
variable {w w' : World} {B : Bd} {room : Nat} {tabs : List (List (Option Addr))} {acks : List (Int × Int)} {last : List Int}
theorem IsB.tbl (h : IsB w B room tabs acks last) : B.tb < w.heap.size ∧ ∃ cur, w.heap[B.tb]? = some (.cells cur 68 (0, 0)) := by
  have h1 := h.row.lt B.tb rfl
  refine ⟨h1.2, ?_⟩
  rcases h.row.2 with ⟨hv, _⟩ | ⟨g, cap, cur, hv, _, hh, _⟩
  · cases hv
  · injection hv with e1 e2 e3
    injection e1 with e1
    injection e1 with e1
    subst e1
    exact ⟨cur, hh⟩
/-- the board's blocks are of different types, but for the queues' own -/
theorem IsB.upd {S : List Nat} (h : IsB w B room tabs acks last) (u : Upd S w w') (hS : ∀ s, s ∈ S → s ∉ B.foot) : IsB w' B room tabs acks last := by
  have f : ∀ s, s ∈ B.foot → s ∉ S := fun s hs hm => hS s hm hs
  refine { h with blk := h.blk.upd u (f _ (by simp [Bd.foot])), row := ownsRow_upd h.row u (fun s hs e => hS s hs (by simp [Value.ownBlock] at e; subst e; simp [Bd.foot])), a := h.a.upd u (f _ (by simp [Bd.foot])) (f _ (by simp [Bd.foot])), l := h.l.upd u (f _ (by simp [Bd.foot])), q := fun i pr xs h1 h2 => ?_ }
  have hm := List.mem_of_getElem? h1
  refine IsQ.upd (h.q i pr xs h1 h2) u (f _ ?_) (f _ ?_)
  · simp only [Bd.foot, List.mem_cons, List.mem_append]
    exact .inr (.inr (.inr (.inr (.inr (.inl (List.mem_map.2 ⟨pr, hm, rfl⟩))))))
  · simp only [Bd.foot, List.mem_cons, List.mem_append]
    exact .inr (.inr (.inr (.inr (.inr (.inr (List.mem_map.2 ⟨pr, hm, rfl⟩))))))
theorem IsB.footlt (h : IsB w B room tabs acks last) : ∀ s, s ∈ B.foot → s < w.heap.size := by
  intro s hs
  simp only [Bd.foot, List.mem_cons, List.mem_append] at hs
  rcases hs with rfl | rfl | rfl | rfl | rfl | hs | hs
  · exact h.blk.lt
  · exact h.tbl.1
  · exact h.l.lt
  · exact h.a.lt.1
  · exact h.a.lt.2
  · obtain ⟨pr, hm, rfl⟩ := List.mem_map.1 hs
    obtain ⟨i, hi⟩ := List.getElem?_of_mem hm
    have hil := (List.getElem?_eq_some_iff.1 hi).1
    exact (IsQ.lt (h.q i pr _ hi (List.getElem?_eq_getElem (by rw [h.lt]; exact hil)))).1
  · obtain ⟨pr, hm, rfl⟩ := List.mem_map.1 hs
    obtain ⟨i, hi⟩ := List.getElem?_of_mem hm
    have hil := (List.getElem?_eq_some_iff.1 hi).1
    exact (IsQ.lt (h.q i pr _ hi (List.getElem?_eq_getElem (by rw [h.lt]; exact hil)))).2
theorem IsB.more (h : IsB w B room tabs acks last) (u : Upd [] w w') : IsB w' B room tabs acks last := h.upd u (by simp)

theorem IsQ.tyS {α : Type} {tS tE : TypeId} {enc : α → Value} {p r cap : Nat} {xs : List α} (h : IsQ tS tE enc w p r cap xs) : (∃ cs, Blk w p tS cs) ∧ (∃ cs, Blk w r tE cs) := by
  obtain ⟨a, ring, _, _, h3, h4⟩ := h
  exact ⟨⟨_, h3⟩, ⟨_, h4⟩⟩
theorem QA.tyS {p r cap : Nat} {xs : List (Int × Int)} (h : QA.Q w p r cap xs) : (∃ cs, Blk w p QA.tS cs) ∧ (∃ cs, Blk w r QA.tE cs) := by
  obtain ⟨a, ring, _, _, h3, h4⟩ := h
  exact ⟨⟨_, h3⟩, ⟨_, h4⟩⟩
/-- one shard's queue has turned -/
theorem IsB.turn (h : IsB w B room tabs acks last) {i : Nat} {pr : Nat × Nat} {ys : List (Option Addr)} (hi : B.prs[i]? = some pr) (hq : QT.Q w' pr.1 pr.2 room ys) (u : Upd [pr.1, pr.2] w w') : IsB w' B room (tabs.set i ys) acks last := by
  have hil := (List.getElem?_eq_some_iff.1 hi).1
  obtain ⟨xs0, hx0⟩ : ∃ xs, tabs[i]? = some xs := ⟨_, List.getElem?_eq_getElem (by rw [h.lt]; exact hil)⟩
  have hq0 := h.q i pr xs0 hi hx0
  obtain ⟨⟨c1, t1⟩, ⟨c2, t2⟩⟩ := IsQ.tyS hq0
  obtain ⟨cur, htb⟩ := h.tbl.2
  have htb' : Blk w B.tb 68 cur := htb
  obtain ⟨⟨c3, t3⟩, ⟨c4, t4⟩⟩ := QA.tyS h.a
  have ne : ∀ {g t cs}, Blk w g t cs → t ≠ QT.tS → t ≠ QT.tE → g ∉ [pr.1, pr.2] := fun hb n1 n2 => by
    simp only [List.mem_cons, List.not_mem_nil, or_false, not_or]
    exact ⟨hb.ne t1 n1, hb.ne t2 n2⟩
  refine { h with blk := h.blk.upd u (ne h.blk (by decide) (by decide)), row := ownsRow_upd h.row u (fun s hs e => by simp [Value.ownBlock] at e; subst e; exact ne htb' (by decide) (by decide) hs), a := h.a.upd u (ne t3 (by decide) (by decide)) (ne t4 (by decide) (by decide)), l := h.l.upd u (ne h.l (by decide) (by decide)), lt := by rw [List.length_set]; exact h.lt, q := fun j pr' xs h1 h2 => ?_ }
  by_cases hj : i = j
  · subst hj
    rw [hi] at h1
    obtain rfl := Option.some.inj h1
    rw [List.getElem?_set_self (by rw [h.lt]; exact hil)] at h2
    obtain rfl := Option.some.inj h2
    exact hq
  · rw [List.getElem?_set_ne hj] at h2
    have hq' := h.q j pr' xs h1 h2
    obtain ⟨⟨c5, t5⟩, ⟨c6, t6⟩⟩ := IsQ.tyS hq'
    have hjl := (List.getElem?_eq_some_iff.1 h1).1
    obtain ⟨e1, e2⟩ := h.inj j i pr' pr h1 hi (Ne.symm hj)
    refine IsQ.upd hq' u ?_ ?_
    · simp only [List.mem_cons, List.not_mem_nil, or_false, not_or]
      exact ⟨e1, t5.ne t2 (by decide)⟩
    · simp only [List.mem_cons, List.not_mem_nil, or_false, not_or]
      exact ⟨t6.ne t1 (by decide), e2⟩
/-- the acknowledgements have turned -/
theorem IsB.acked (h : IsB w B room tabs acks last) {acks' : List (Int × Int)} (hq : QA.Q w' B.pa B.ra (B.prs.length * room) acks') (u : Upd [B.pa, B.ra] w w') (ho : ∀ (x : Int × Int), x ∈ acks' → ∃ i : Nat, x.1 = (i : Int) ∧ i < B.prs.length) : IsB w' B room tabs acks' last := by
  obtain ⟨⟨c3, t3⟩, ⟨c4, t4⟩⟩ := QA.tyS h.a
  obtain ⟨cur, htb⟩ := h.tbl.2
  have htb' : Blk w B.tb 68 cur := htb
  have ne : ∀ {g t cs}, Blk w g t cs → t ≠ QA.tS → t ≠ QA.tE → g ∉ [B.pa, B.ra] := fun hb n1 n2 => by
    simp only [List.mem_cons, List.not_mem_nil, or_false, not_or]
    exact ⟨hb.ne t3 n1, hb.ne t4 n2⟩
  refine { h with blk := h.blk.upd u (ne h.blk (by decide) (by decide)), row := ownsRow_upd h.row u (fun s hs e => by simp [Value.ownBlock] at e; subst e; exact ne htb' (by decide) (by decide) hs), a := hq, l := h.l.upd u (ne h.l (by decide) (by decide)), ok := ho, q := fun j pr' xs h1 h2 => ?_ }
  have hq' := h.q j pr' xs h1 h2
  obtain ⟨⟨c5, t5⟩, ⟨c6, t6⟩⟩ := IsQ.tyS hq'
  exact IsQ.upd hq' u (ne t5 (by decide) (by decide)) (ne t6 (by decide) (by decide))
/-- what was collected last has turned -/
theorem IsB.lasted (h : IsB w B room tabs acks last) (i : Nat) (e : Int) : IsB (w.setCell ⟨B.la, i, none⟩ (.int .u64 e)) B room tabs acks (last.set i e) := by
  obtain ⟨⟨c3, t3⟩, ⟨c4, t4⟩⟩ := QA.tyS h.a
  obtain ⟨cur, htb⟩ := h.tbl.2
  have htb' : Blk w B.tb 68 cur := htb
  have u : Upd [B.la] w (w.setCell ⟨B.la, i, none⟩ (.int .u64 e)) := (Upd.refl _ _).setCell (by simp) _
  have ne : ∀ {g t cs}, Blk w g t cs → t ≠ 30 → g ∉ [B.la] := fun hb n1 => by
    simp only [List.mem_cons, List.not_mem_nil, or_false]
    exact hb.ne h.l n1
  refine { h with blk := h.blk.upd u (ne h.blk (by decide)), row := ownsRow_upd h.row u (fun s hs e => by simp [Value.ownBlock] at e; subst e; exact ne htb' (by decide) hs), a := h.a.upd u (ne t3 (by decide)) (ne t4 (by decide)), l := ?_, ll := by rw [List.length_set]; exact h.ll, q := fun j pr' xs h1 h2 => ?_ }
  · have hq' := h.q j pr' xs h1 h2
    obtain ⟨⟨c5, t5⟩, ⟨c6, t6⟩⟩ := IsQ.tyS hq'
    exact IsQ.upd hq' u (ne t5 (by decide)) (ne t6 (by decide))
  · have h1 := h.l.store i (.int .u64 e)
    have e1 : ((last.map (Value.int .u64)).toArray.setIfInBounds i (.int .u64 e)) = ((last.set i e).map (Value.int .u64)).toArray := by
      apply Array.ext'
      simp [List.map_set]
    rw [e1] at h1
    exact h1
/-- the cells that the walks read -/
theorem IsB.cells (h : IsB w B room tabs acks last) : w.cell? ⟨B.b, 0, none⟩ = some (.slice (some ⟨B.tb, 0, none⟩) B.prs.length B.tc) ∧ w.cell? ⟨B.b, 1, none⟩ = some (.pointer (some ⟨B.pa, 0, none⟩)) ∧
    w.cell? ⟨B.b, 2, none⟩ = some (.slice (some ⟨B.la, 0, none⟩) B.prs.length B.prs.length) := ⟨h.blk.cell 0, h.blk.cell 1, h.blk.cell 2⟩
theorem IsB.at (h : IsB w B room tabs acks last) {i : Nat} {pr : Nat × Nat} (hi : B.prs[i]? = some pr) : w.cell? ⟨B.tb, i, none⟩ = some (.pointer (some ⟨pr.1, 0, none⟩)) := by
  have hil := (List.getElem?_eq_some_iff.1 hi).1
  rw [h.row.cellAt i (by omega), List.getElem?_map, hi]; rfl
end
end Go.Proofs.Ytdcekgdihnlbpaa
